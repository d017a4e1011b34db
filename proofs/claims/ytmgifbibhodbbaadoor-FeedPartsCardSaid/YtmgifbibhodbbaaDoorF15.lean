/- The walk of FeedParts. -/
import Derived.Test.YtmgifbibhodbbaaDoorF14
namespace Go.Proofs.YtmgifbibhodbbaaDoor
open Go.RowKit

set_option maxRecDepth 100000 in
set_option maxHeartbeats 3200000 in
theorem parts_any (l : List UInt8) (A : Option Addr) (c : Nat) (P : List Nat) (A' : Option Addr) (c' : Nat) (w : World) (hE : Env w.heap.size w) (hl : BytesIn w w.heap.size A l) (hn : A = none → l = []) (hc : l.length ≤ c) (hP : PartsAt w w.heap.size A' P) (hP2 : ∀ p ∈ P, p < 65536) :
    Calls Tryd.prog 5 #[.slice A l.length c, .slice A' P.length c'] w fun e w' => e = .returned (.bool true) ∧ Below w.heap.size w w' := by
  by_cases h1 : 20000 < (l.length : Int)
  · go_enter Tryd.func5, Tryd.ntmps5
    go_wp2_with fail
    go_ret
    exact ⟨rfl, Below.refl _ _⟩
  · by_cases h2 : 40 < (P.length : Int)
    · have h1' : (l.length : Int) ≤ 20000 := by omega
      clear h1
      go_enter Tryd.func5, Tryd.ntmps5
      go_wp2_with fail
      go_ret
      exact ⟨rfl, Below.refl _ _⟩
    · have h1' : (l.length : Int) ≤ 20000 := by omega
      have h2' : (P.length : Int) ≤ 40 := by omega
      have HE := Lib.hid hE; have HL := Lib.hid hl; have HPP := Lib.hid hP; have HP2 := Lib.hid hP2
      have HN := Lib.hid hn; have HC := Lib.hid hc
      clear h1 h2 hE hl hn hc hP hP2
      go_enter Tryd.func5, Tryd.ntmps5
      go_wp2_with fail
      refine (new_any w).mono ?_
      rintro e w1 ⟨rfl, hb1, hs1, hk1⟩
      go_wp2_with fail
      refine (new_any w1).mono ?_
      rintro e w2 ⟨rfl, hb2, hs2, hk2⟩
      have HK1 := Lib.hid (hk1.stay hb2); have HK2 := Lib.hid hk2
      have HB := Lib.hid (hb1.trans (hb2.mono (by omega)))
      rw [hs1] at HK2 ⊢
      have HS := Lib.hid (show w2.heap.size = w.heap.size + 2 by omega)
      clear hb1 hs1 hk1 hb2 hs2 hk2
      go_wp2_with fail
      have hE2 : Env w.heap.size w2 := HE.out.on HB.out
      clear hE2
      go_loopw [7, 8, 9] (fun all at_ i X => ∃ k a : Nat, k ≤ P.length + 1 ∧ a ≤ l.length ∧ (k = P.length + 1 → a = l.length) ∧ i = .int .i64 k ∧ at_ = .int .i64 a ∧
          ∃ V c2 v, all = .slice V (takeF FS.new (l.take a)).2.length c2 ∧ X.ownsRow w.heap.size 70 2 (.slice V (takeF FS.new (l.take a)).2.length c2) (takeF FS.new (l.take a)).2.length (pcs (takeF FS.new (l.take a)).2) ∧
          Fd (w.heap.size + 2) w.heap.size X (takeF FS.new (l.take a)).1 v ∧ Blk X (w.heap.size + 1) 68 #[.slice none 0 0, .int .i64 0, .int .i64 0, .int .i64 0, .int .i64 0, .int .u8 0, fnOf (w.heap.size + 1) 0] ∧ Below w.heap.size w X) (fun _ _ i _ => P.length + 1 - (intOf i).toNat)
      case atStart => exact ⟨0, 0, by omega, by omega, by omega, rfl, rfl, none, 0, _, rfl, ⟨rfl, .inl ⟨rfl, rfl⟩⟩, ⟨HK1.out, ⟨rfl, .inl ⟨rfl, rfl⟩⟩, by omega, by have := HS.out; omega⟩, HK2.out, HB.out⟩
      case round =>
        obtain ⟨k, a, hk, ha, hka, rfl, rfl, V, c2, v, rfl, hown, hfd, hg2, hbel⟩ := hrel
        clear HK1 HK2 HB HS
        by_cases hlt : k ≤ P.length
        · have hk1 : (0 : Int) ≤ (k : Int) := Int.natCast_nonneg _
          have ha1 : (0 : Int) ≤ (a : Int) := Int.natCast_nonneg _
          have hk2 : (k : Int) ≤ (P.length : Int) := by omega
          have HO := Lib.hid hown; have HF := Lib.hid hfd; have HG := Lib.hid hg2; have HBE := Lib.hid hbel
          clear hown hfd hg2 hbel
          by_cases hin : k < P.length
          · obtain ⟨p, hp⟩ : ∃ p, P[k]? = some p := ⟨_, List.getElem?_eq_getElem hin⟩
            have hp2 := HP2.out p (List.mem_of_getElem? hp)
            obtain ⟨b', o', rfl, hb', hcell⟩ := HPP.out (fun e => by rw [e] at hin; simp at hin)
            have hcp : World.cell? wr ⟨b', o' + k, none⟩ = some (.int .u16 (p : Nat)) := (HBE.out.cell (p := ⟨b', o' + k, none⟩) hb').trans (hcell k p hp)
            have hin' : (k : Int) < (P.length : Int) := by omega
            obtain ⟨t, ht⟩ : ∃ t : Nat, t = min l.length (a + p) := ⟨_, rfl⟩
            have hmin : min (l.length : Int) ((a : Int) + (p : Int)) = (t : Int) := by omega
            have t0 : (0 : Int) ≤ (t : Int) := Int.natCast_nonneg _
            have htl : t ≤ l.length := by omega
            have hat : a ≤ t := by omega
            have t1 : (t : Int) ≤ (c : Int) := by have := HC.out; omega
            have hok := takeF_ok (FS.ok_new 0) (l.take a)
            have hst := take_bytes (n₀ := w.heap.size) (w.heap.size + 2) w.heap.size _ _ v _ _ (c - a) wr HF.out (HE.out.on HBE.out) (Nat.le_refl _) hok (by simp; omega) (HL.out.part (c := c) (a := a) (t := t) HBE.out (Nat.le_refl _) (by omega) HC.out)
            have hml : ((l.drop a).take (t - a)).length = t - a := by simp; omega
            rw [hml] at hst
            have HS := Lib.hid hst; have HTL := Lib.hid htl; have HAT := Lib.hid hat
            have hcapn := own_cap HO.out
            have hlenn := takeF_len FS.new (l.take a)
            clear hst hml hok ht hcell hp
            by_cases hca : c = a
            · rw [if_pos hca] at HS
              subst hca
              rw [Nat.sub_self] at HS
              go_wp2_with fail
              refine HS.out.mono ?_
              rintro e w3 ⟨V3, c3, rfl, hown3, ⟨v3, hd3⟩, hf3⟩
              have tp := take_part l c t HAT.out FS.new
              have tl := takeF_len (takeF FS.new (l.take c)).1 ((l.drop c).take (t - c))
              clear HS
              generalize takeF (takeF FS.new (l.take c)).1 ((l.drop c).take (t - c)) = q at hown3 hd3 hf3 tp tl ⊢
              generalize takeF FS.new (l.take c) = q0 at HO HF hcapn hlenn tp ⊢
              obtain ⟨s3, L3⟩ := q
              obtain ⟨s0, L0⟩ := q0
              simp only at hown3 hd3 tp hcapn hlenn tl ⊢
              simp only [List.length_take, List.length_drop] at hlenn tl
              have ho3 := hf3.own70b HO.out HF.out.blk
              have hg3 := hf3.blk HG.out (by omega) (.inl (by omega))
              have hb3 := HBE.out.trans (hf3.below (Nat.le_refl _) (by omega) HBE.out.size)
              have hle3 : L0.length + L3.length ≤ 40000 := by omega
              have HO3 := Lib.hid ho3; have HG3 := Lib.hid hg3; have HB3 := Lib.hid hb3; have HD3 := Lib.hid hd3; have HN3 := Lib.hid hown3; have TP := Lib.hid tp
              clear ho3 hg3 hb3 hd3 hown3 tp hf3 HO HG HBE HF
              rcases HN3.out.2 with ⟨hv, h0⟩ | ⟨kk, cap3, cur3, hv, hwr, hcur3, _, _, _, htk⟩
              · injection hv with hv _ hv3
                subst hv hv3
                have hL3 : L3 = [] := List.eq_nil_of_length_eq_zero h0
                subst hL3
                go_wp2_with (at_builtin; refine wpList_app_nil rfl _ _ rfl V L0.length c2 rfl rfl hcapn ?_)
                go_wp2_with fail
                go_roundw
                case rel =>
                  have ht2 : takeF FS.new (l.take t) = (s3, L0) := by rw [TP.out]; simp
                  refine ⟨k + 1, t, by omega, by omega, by omega, by go_num, rfl, ?_⟩
                  rw [ht2]
                  exact ⟨V, c2, v3, rfl, HO3.out, HD3.out, HG3.out, HB3.out⟩
                case measure => simp [intOf]; omega
              · injection hv with hv _ hv3
                subst hv
                obtain ⟨ht70, _, i0, z0, hi, hz, hs, hy, hzs⟩ := elem70
                have HI := Lib.hid hi; have HNEWS := Lib.hid (own_get HN3.out); have HONE := Lib.hid (pcs_one L3)
                have HLEN := Lib.hid (pcs_length L3)
                clear hi hcur3 htk
                go_wp2_with (at_builtin; refine wpList_append_own _ rfl _ _ 43 rfl w.heap.size 70 i0 z0 2 24 ht70 HI.out hz hs hy hzs (by decide) (.slice V L0.length c2) L0.length (pcs L0) rfl HO3.out ⟨kk, 0, none⟩ L3.length c3 (pcs L3) rfl HLEN.out HNEWS.out HONE.out ?c3 ?c4 ?c5 ?_)
                case c3 => unfold maxLen; omega
                case c4 => omega
                case c5 => exact HB3.out.size
                intro v4 w4 hown4 hgrow4 _
                obtain ⟨V4, c4, rfl⟩ := own_form hown4
                have hd4 := HD3.out.past2 HO3.out hgrow4
                have hg4 := HG3.out.grown hgrow4 (own_ne HO3.out HG3.out (by decide))
                have hb4 := HB3.out.grown hgrow4 HB3.out.size (fun k e => (HO3.out.lt k e).1)
                have HO4 := Lib.hid hown4; have HD4 := Lib.hid hd4; have HG4 := Lib.hid hg4; have HB4 := Lib.hid hb4
                clear hown4 hd4 hg4 hb4 hgrow4 HO3 HD3 HG3 HB3 HNEWS HONE HN3
                go_wp2_with fail
                go_roundw
                case rel =>
                  refine ⟨k + 1, t, by omega, by omega, by omega, by go_num, rfl, ?_⟩
                  rw [TP.out]
                  simp only [List.length_append, pcs_append]
                  exact ⟨V4, c4, v3, rfl, HO4.out, HD4.out, HG4.out, HB4.out⟩
                case measure => simp [intOf]; omega
            · rw [if_neg hca] at HS
              go_wp2_with fail
              refine HS.out.mono ?_
              rintro e w3 ⟨V3, c3, rfl, hown3, ⟨v3, hd3⟩, hf3⟩
              have tp := take_part l a t HAT.out FS.new
              have tl := takeF_len (takeF FS.new (l.take a)).1 ((l.drop a).take (t - a))
              clear HS
              generalize takeF (takeF FS.new (l.take a)).1 ((l.drop a).take (t - a)) = q at hown3 hd3 hf3 tp tl ⊢
              generalize takeF FS.new (l.take a) = q0 at HO HF hcapn hlenn tp ⊢
              obtain ⟨s3, L3⟩ := q
              obtain ⟨s0, L0⟩ := q0
              simp only at hown3 hd3 tp hcapn hlenn tl ⊢
              simp only [List.length_take, List.length_drop] at hlenn tl
              have ho3 := hf3.own70b HO.out HF.out.blk
              have hg3 := hf3.blk HG.out (by omega) (.inl (by omega))
              have hb3 := HBE.out.trans (hf3.below (Nat.le_refl _) (by omega) HBE.out.size)
              have hle3 : L0.length + L3.length ≤ 40000 := by omega
              have HO3 := Lib.hid ho3; have HG3 := Lib.hid hg3; have HB3 := Lib.hid hb3; have HD3 := Lib.hid hd3; have HN3 := Lib.hid hown3; have TP := Lib.hid tp
              clear ho3 hg3 hb3 hd3 hown3 tp hf3 HO HG HBE HF
              rcases HN3.out.2 with ⟨hv, h0⟩ | ⟨kk, cap3, cur3, hv, hwr, hcur3, _, _, _, htk⟩
              · injection hv with hv _ hv3
                subst hv hv3
                have hL3 : L3 = [] := List.eq_nil_of_length_eq_zero h0
                subst hL3
                go_wp2_with (at_builtin; refine wpList_app_nil rfl _ _ rfl V L0.length c2 rfl rfl hcapn ?_)
                go_wp2_with fail
                go_roundw
                case rel =>
                  have ht2 : takeF FS.new (l.take t) = (s3, L0) := by rw [TP.out]; simp
                  refine ⟨k + 1, t, by omega, by omega, by omega, by go_num, rfl, ?_⟩
                  rw [ht2]
                  exact ⟨V, c2, v3, rfl, HO3.out, HD3.out, HG3.out, HB3.out⟩
                case measure => simp [intOf]; omega
              · injection hv with hv _ hv3
                subst hv
                obtain ⟨ht70, _, i0, z0, hi, hz, hs, hy, hzs⟩ := elem70
                have HI := Lib.hid hi; have HNEWS := Lib.hid (own_get HN3.out); have HONE := Lib.hid (pcs_one L3)
                have HLEN := Lib.hid (pcs_length L3)
                clear hi hcur3 htk
                go_wp2_with (at_builtin; refine wpList_append_own _ rfl _ _ 43 rfl w.heap.size 70 i0 z0 2 24 ht70 HI.out hz hs hy hzs (by decide) (.slice V L0.length c2) L0.length (pcs L0) rfl HO3.out ⟨kk, 0, none⟩ L3.length c3 (pcs L3) rfl HLEN.out HNEWS.out HONE.out ?c3 ?c4 ?c5 ?_)
                case c3 => unfold maxLen; omega
                case c4 => omega
                case c5 => exact HB3.out.size
                intro v4 w4 hown4 hgrow4 _
                obtain ⟨V4, c4, rfl⟩ := own_form hown4
                have hd4 := HD3.out.past2 HO3.out hgrow4
                have hg4 := HG3.out.grown hgrow4 (own_ne HO3.out HG3.out (by decide))
                have hb4 := HB3.out.grown hgrow4 HB3.out.size (fun k e => (HO3.out.lt k e).1)
                have HO4 := Lib.hid hown4; have HD4 := Lib.hid hd4; have HG4 := Lib.hid hg4; have HB4 := Lib.hid hb4
                clear hown4 hd4 hg4 hb4 hgrow4 HO3 HD3 HG3 HB3 HNEWS HONE HN3
                go_wp2_with fail
                go_roundw
                case rel =>
                  refine ⟨k + 1, t, by omega, by omega, by omega, by go_num, rfl, ?_⟩
                  rw [TP.out]
                  simp only [List.length_append, pcs_append]
                  exact ⟨V4, c4, v3, rfl, HO4.out, HD4.out, HG4.out, HB4.out⟩
                case measure => simp [intOf]; omega
          · have hin' : (P.length : Int) ≤ (k : Int) := by omega
            have htl : l.length ≤ l.length := by omega
            have hat : a ≤ l.length := by omega
            have t1 : (l.length : Int) ≤ (c : Int) := by have := HC.out; omega
            have hok := takeF_ok (FS.ok_new 0) (l.take a)
            have hst := take_bytes (n₀ := w.heap.size) (w.heap.size + 2) w.heap.size _ _ v _ _ (c - a) wr HF.out (HE.out.on HBE.out) (Nat.le_refl _) hok (by simp; omega) (HL.out.part (c := c) (a := a) (t := l.length) HBE.out (Nat.le_refl _) (by omega) HC.out)
            have hml : ((l.drop a).take (l.length - a)).length = l.length - a := by simp
            rw [hml] at hst
            have HS := Lib.hid hst; have HTL := Lib.hid htl; have HAT := Lib.hid hat
            have hcapn := own_cap HO.out
            have hlenn := takeF_len FS.new (l.take a)
            clear hst hml hok
            by_cases hca : c = a
            · rw [if_pos hca] at HS
              subst hca
              rw [Nat.sub_self] at HS
              go_wp2_with fail
              refine HS.out.mono ?_
              rintro e w3 ⟨V3, c3, rfl, hown3, ⟨v3, hd3⟩, hf3⟩
              have tp := take_part l c l.length HAT.out FS.new
              have tl := takeF_len (takeF FS.new (l.take c)).1 ((l.drop c).take (l.length - c))
              clear HS
              generalize takeF (takeF FS.new (l.take c)).1 ((l.drop c).take (l.length - c)) = q at hown3 hd3 hf3 tp tl ⊢
              generalize takeF FS.new (l.take c) = q0 at HO HF hcapn hlenn tp ⊢
              obtain ⟨s3, L3⟩ := q
              obtain ⟨s0, L0⟩ := q0
              simp only at hown3 hd3 tp hcapn hlenn tl ⊢
              simp only [List.length_take, List.length_drop] at hlenn tl
              have ho3 := hf3.own70b HO.out HF.out.blk
              have hg3 := hf3.blk HG.out (by omega) (.inl (by omega))
              have hb3 := HBE.out.trans (hf3.below (Nat.le_refl _) (by omega) HBE.out.size)
              have hle3 : L0.length + L3.length ≤ 40000 := by omega
              have HO3 := Lib.hid ho3; have HG3 := Lib.hid hg3; have HB3 := Lib.hid hb3; have HD3 := Lib.hid hd3; have HN3 := Lib.hid hown3; have TP := Lib.hid tp
              clear ho3 hg3 hb3 hd3 hown3 tp hf3 HO HG HBE HF
              rcases HN3.out.2 with ⟨hv, h0⟩ | ⟨kk, cap3, cur3, hv, hwr, hcur3, _, _, _, htk⟩
              · injection hv with hv _ hv3
                subst hv hv3
                have hL3 : L3 = [] := List.eq_nil_of_length_eq_zero h0
                subst hL3
                go_wp2_with (at_builtin; refine wpList_app_nil rfl _ _ rfl V L0.length c2 rfl rfl hcapn ?_)
                go_wp2_with fail
                go_roundw
                case rel =>
                  have ht2 : takeF FS.new (l.take l.length) = (s3, L0) := by rw [TP.out]; simp
                  refine ⟨k + 1, l.length, by omega, Nat.le_refl _, fun _ => rfl, by go_num, rfl, ?_⟩
                  rw [ht2]
                  exact ⟨V, c2, v3, rfl, HO3.out, HD3.out, HG3.out, HB3.out⟩
                case measure => simp [intOf]; omega
              · injection hv with hv _ hv3
                subst hv
                obtain ⟨ht70, _, i0, z0, hi, hz, hs, hy, hzs⟩ := elem70
                have HI := Lib.hid hi; have HNEWS := Lib.hid (own_get HN3.out); have HONE := Lib.hid (pcs_one L3)
                have HLEN := Lib.hid (pcs_length L3)
                clear hi hcur3 htk
                go_wp2_with (at_builtin; refine wpList_append_own _ rfl _ _ 43 rfl w.heap.size 70 i0 z0 2 24 ht70 HI.out hz hs hy hzs (by decide) (.slice V L0.length c2) L0.length (pcs L0) rfl HO3.out ⟨kk, 0, none⟩ L3.length c3 (pcs L3) rfl HLEN.out HNEWS.out HONE.out ?c3 ?c4 ?c5 ?_)
                case c3 => unfold maxLen; omega
                case c4 => omega
                case c5 => exact HB3.out.size
                intro v4 w4 hown4 hgrow4 _
                obtain ⟨V4, c4, rfl⟩ := own_form hown4
                have hd4 := HD3.out.past2 HO3.out hgrow4
                have hg4 := HG3.out.grown hgrow4 (own_ne HO3.out HG3.out (by decide))
                have hb4 := HB3.out.grown hgrow4 HB3.out.size (fun k e => (HO3.out.lt k e).1)
                have HO4 := Lib.hid hown4; have HD4 := Lib.hid hd4; have HG4 := Lib.hid hg4; have HB4 := Lib.hid hb4
                clear hown4 hd4 hg4 hb4 hgrow4 HO3 HD3 HG3 HB3 HNEWS HONE HN3
                go_wp2_with fail
                go_roundw
                case rel =>
                  refine ⟨k + 1, l.length, by omega, Nat.le_refl _, fun _ => rfl, by go_num, rfl, ?_⟩
                  rw [TP.out]
                  simp only [List.length_append, pcs_append]
                  exact ⟨V4, c4, v3, rfl, HO4.out, HD4.out, HG4.out, HB4.out⟩
                case measure => simp [intOf]; omega
            · rw [if_neg hca] at HS
              go_wp2_with fail
              refine HS.out.mono ?_
              rintro e w3 ⟨V3, c3, rfl, hown3, ⟨v3, hd3⟩, hf3⟩
              have tp := take_part l a l.length HAT.out FS.new
              have tl := takeF_len (takeF FS.new (l.take a)).1 ((l.drop a).take (l.length - a))
              clear HS
              generalize takeF (takeF FS.new (l.take a)).1 ((l.drop a).take (l.length - a)) = q at hown3 hd3 hf3 tp tl ⊢
              generalize takeF FS.new (l.take a) = q0 at HO HF hcapn hlenn tp ⊢
              obtain ⟨s3, L3⟩ := q
              obtain ⟨s0, L0⟩ := q0
              simp only at hown3 hd3 tp hcapn hlenn tl ⊢
              simp only [List.length_take, List.length_drop] at hlenn tl
              have ho3 := hf3.own70b HO.out HF.out.blk
              have hg3 := hf3.blk HG.out (by omega) (.inl (by omega))
              have hb3 := HBE.out.trans (hf3.below (Nat.le_refl _) (by omega) HBE.out.size)
              have hle3 : L0.length + L3.length ≤ 40000 := by omega
              have HO3 := Lib.hid ho3; have HG3 := Lib.hid hg3; have HB3 := Lib.hid hb3; have HD3 := Lib.hid hd3; have HN3 := Lib.hid hown3; have TP := Lib.hid tp
              clear ho3 hg3 hb3 hd3 hown3 tp hf3 HO HG HBE HF
              rcases HN3.out.2 with ⟨hv, h0⟩ | ⟨kk, cap3, cur3, hv, hwr, hcur3, _, _, _, htk⟩
              · injection hv with hv _ hv3
                subst hv hv3
                have hL3 : L3 = [] := List.eq_nil_of_length_eq_zero h0
                subst hL3
                go_wp2_with (at_builtin; refine wpList_app_nil rfl _ _ rfl V L0.length c2 rfl rfl hcapn ?_)
                go_wp2_with fail
                go_roundw
                case rel =>
                  have ht2 : takeF FS.new (l.take l.length) = (s3, L0) := by rw [TP.out]; simp
                  refine ⟨k + 1, l.length, by omega, Nat.le_refl _, fun _ => rfl, by go_num, rfl, ?_⟩
                  rw [ht2]
                  exact ⟨V, c2, v3, rfl, HO3.out, HD3.out, HG3.out, HB3.out⟩
                case measure => simp [intOf]; omega
              · injection hv with hv _ hv3
                subst hv
                obtain ⟨ht70, _, i0, z0, hi, hz, hs, hy, hzs⟩ := elem70
                have HI := Lib.hid hi; have HNEWS := Lib.hid (own_get HN3.out); have HONE := Lib.hid (pcs_one L3)
                have HLEN := Lib.hid (pcs_length L3)
                clear hi hcur3 htk
                go_wp2_with (at_builtin; refine wpList_append_own _ rfl _ _ 43 rfl w.heap.size 70 i0 z0 2 24 ht70 HI.out hz hs hy hzs (by decide) (.slice V L0.length c2) L0.length (pcs L0) rfl HO3.out ⟨kk, 0, none⟩ L3.length c3 (pcs L3) rfl HLEN.out HNEWS.out HONE.out ?c3 ?c4 ?c5 ?_)
                case c3 => unfold maxLen; omega
                case c4 => omega
                case c5 => exact HB3.out.size
                intro v4 w4 hown4 hgrow4 _
                obtain ⟨V4, c4, rfl⟩ := own_form hown4
                have hd4 := HD3.out.past2 HO3.out hgrow4
                have hg4 := HG3.out.grown hgrow4 (own_ne HO3.out HG3.out (by decide))
                have hb4 := HB3.out.grown hgrow4 HB3.out.size (fun k e => (HO3.out.lt k e).1)
                have HO4 := Lib.hid hown4; have HD4 := Lib.hid hd4; have HG4 := Lib.hid hg4; have HB4 := Lib.hid hb4
                clear hown4 hd4 hg4 hb4 hgrow4 HO3 HD3 HG3 HB3 HNEWS HONE HN3
                go_wp2_with fail
                go_roundw
                case rel =>
                  refine ⟨k + 1, l.length, by omega, Nat.le_refl _, fun _ => rfl, by go_num, rfl, ?_⟩
                  rw [TP.out]
                  simp only [List.length_append, pcs_append]
                  exact ⟨V4, c4, v3, rfl, HO4.out, HD4.out, HG4.out, HB4.out⟩
                case measure => simp [intOf]; omega
        · have hkl : a = l.length := hka (by omega)
          subst hkl
          rw [List.take_length] at hown hfd
          have hin' : (P.length : Int) < (k : Int) := by omega
          have hlen := takeF_len FS.new l
          have hok := takeF_ok (FS.ok_new 0) l
          have hsl := hok.len
          have HO := Lib.hid hown; have HF := Lib.hid hfd; have HG := Lib.hid hg2; have HBE := Lib.hid hbel
          clear hown hfd hg2 hbel hok
          go_wp2_with fail
          refine (back_any _ V c2 wr (PcsAt.of_own HO.out) (by omega)).mono ?_
          rintro e w3 ⟨V3, c3, rfl, ho3, hb3⟩
          have hbe3 := HBE.out.trans (hb3.mono HBE.out.size)
          have hf3 := HF.out.below hb3
          have hg3 := HG.out.stay hb3
          have HO3 := Lib.hid ho3; have HB3 := Lib.hid hbe3; have HF3 := Lib.hid hf3; have HG3 := Lib.hid hg3
          clear ho3 hb3 hbe3 hf3 hg3
          go_wp2_with fail
          have hgl := HG3.out.lt
          have hst := take_bytes (n₀ := w.heap.size) w3.heap.size (w.heap.size + 1) 0 FS.new (.slice none 0 0) l A c w3 ⟨HG3.out, ⟨rfl, .inl ⟨rfl, rfl⟩⟩, hgl, Nat.le_refl _⟩ (HE.out.on HB3.out) (by omega) (FS.ok_new 0) (by omega) (HL.out.at HB3.out (by omega) HB3.out.size)
          refine hst.mono ?_
          rintro e w4 ⟨V4, c4, rfl, ho4, ⟨v4, hd4⟩, hf4⟩
          have HO34 := Lib.hid (hf4.own_other HO3.out HG3.out (by decide) (by decide))
          have HF4 := Lib.hid (hf4.fd HF3.out (by omega) (Nat.le_refl _) (HF3.out.other HG3.out))
          have HD4 := Lib.hid hd4; have HO4 := Lib.hid ho4
          have HB4 := Lib.hid (HB3.out.trans (hf4.below (by omega) HB3.out.size HB3.out.size))
          clear hst ho4 hd4 hf4 HO3 HF3 HG3 HO HF HG HBE
          go_wp2_with fail
          refine (back_any _ V4 c4 w4 (PcsAt.of_own HO4.out) (by omega)).mono ?_
          rintro e w5 ⟨V5, c5, rfl, ho5, hb5⟩
          have HB5 := Lib.hid (HB4.out.trans (hb5.mono HB4.out.size))
          have HF5 := Lib.hid (HF4.out.below hb5); have HD5 := Lib.hid (HD4.out.below hb5)
          have HP3 := Lib.hid (((PcsAt.of_own HO34.out).below hb5).mono hb5.size)
          have HP5 := Lib.hid (PcsAt.of_own ho5)
          clear ho5 hb5 HO34 HF4 HD4 HO4 HB4
          go_wp2_with fail
          refine (same_any _ V3 V5 c3 c5 w5 HP3.out HP5.out (by omega)).mono ?_
          rintro e w6 ⟨rfl, hb6⟩
          have HB6 := Lib.hid (HB5.out.trans (hb6.mono HB5.out.size))
          have HF6 := Lib.hid (HF5.out.below hb6); have HD6 := Lib.hid (HD5.out.below hb6)
          clear hb6 HP3 HP5 HF5 HD5 HB5
          go_wp2_with fail
          refine (kept_any _ _ _ _ w6 HF6.out (by omega)).mono ?_
          rintro e w7 ⟨rfl, rfl⟩
          go_wp2_with fail
          refine (kept_any _ _ _ _ w6 HD6.out (by omega)).mono ?_
          rintro e w7 ⟨rfl, rfl⟩
          go_wp2_with fail
          refine (awakeF_any w6 (HE.out.on HB6.out)).mono ?_
          rintro e w7 ⟨rfl, hb7⟩
          go_wp2_with fail
          go_ret
          exact ⟨rfl, HB6.out.trans (hb7.mono HB6.out.size)⟩

end Go.Proofs.YtmgifbibhodbbaaDoor

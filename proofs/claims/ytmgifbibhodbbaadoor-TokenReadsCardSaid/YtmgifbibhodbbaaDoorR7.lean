/- The contract of the reference's reader: String. -/
import Derived.Test.YtmgifbibhodbbaaDoorR6
import Derived.Test.YtmgifbibhodbbaaDoorT7
namespace Go.Proofs.YtmgifbibhodbbaaDoor
open Go.RowKit

/-- the words of the loop's relation -/
structure SRel (g : Nat) (S : List UInt8) (w : World) (res : Option (List UInt8 × List UInt8)) (k : Nat) (l acc : List UInt8) (X : World) : Prop where
  rd : Rr X g S (l, false)
  grown : w.grownBy X (some g)
  res : qrest (l, false) acc = res
  len : l.length ≤ k
  all : acc.length + l.length ≤ 1048576

theorem byte_ne {c d : UInt8} (n : Int) (hd : n = (d.toNat : Int)) (h : c ≠ d) : ((c.toNat : Int) == n) = false := by
  subst hd
  simp only [beq_eq_false_iff_ne]
  intro e
  exact h (UInt8.toNat_inj.1 (by omega))

theorem refNext_at (g : Nat) (S : List UInt8) (s : Sta) (c : UInt8) (n : Int) (hc : n = (c.toNat : Int)) (b : Bool) (hb : nextB c s = b) (w : World) (hS : S.length ≤ 1048576) (hr : Rr w g S s) :
    Calls Tryd.prog 47 #[.pointer (some ⟨g, 0, none⟩), .int .u8 n] w fun e w' => e = .returned (.bool b) ∧ ∃ n, w' = w.drewN n := by
  subst hc; subst hb
  exact refNext_any g S s c w hS hr

set_option maxHeartbeats 1600000 in
set_option maxRecDepth 100000 in
theorem refQuoted_any (g : Nat) (S : List UInt8) (r : List UInt8) (w : World) (hS : S.length ≤ 1048576) (hr : Rr w g S (34 :: r, false)) :
    Calls Tryd.prog 43 #[.pointer (some ⟨g, 0, none⟩)] w fun e w' => e = .returned (.string (B (pQuoted (34 :: r, false)).1)) ∧ Rr w' g S (pQuoted (34 :: r, false)).2 ∧ w.grownBy w' (some g) := by
  have hn1 := refNext_at g S (34 :: r, false) 123 123 rfl false (by simp [nextB]) w hS hr
  have hn2 : ∀ W, (∃ n, W = w.drewN n) → Calls Tryd.prog 47 #[.pointer (some ⟨g, 0, none⟩), .int .u8 34] W fun e w' => e = .returned (.bool true) ∧ ∃ n, w' = W.drewN n := fun W h => refNext_at g S (34 :: r, false) 34 34 rfl true (by simp [nextB]) W hS (rr_drewOf h hr)
  have hlen := hr.len
  simp only [List.length_cons] at hlen
  obtain ⟨res, hres⟩ : ∃ res, qscan r = res := ⟨_, rfl⟩
  have hp : pQuoted (34 :: r, false) = qend res := by rw [← hres]; exact pQuoted_eq r
  have HP := Lib.hid hp; have HQ := Lib.hid hres; have N1 := Lib.hid hn1; have N2 := Lib.hid hn2; have H := Lib.hid hr
  clear hp hres hn1 hn2 hr
  go_enter Tryd.func43, Tryd.ntmps43
  go_wp2_with fail
  refine N1.out.mono ?_
  rintro e w1 ⟨rfl, d1⟩
  have D1 := Lib.hid d1
  clear d1
  go_wp2_with fail
  refine (N2.out _ D1.out).mono ?_
  rintro e w2 ⟨rfl, d2⟩
  obtain ⟨a, ha, hb, hs⟩ := rr_drewOf d2 (rr_drewOf D1.out H.out)
  replace hs : (34 :: r : List UInt8) = S.drop a := hs
  have hq2 : w.grownBy w2 (some g) := grown_then (grown_drewOf D1.out _) (grown_drewOf d2 _)
  have c1 : w2.cell? ⟨g, 1, none⟩ = some (.int .i64 a) := hb.cell 1
  have f1 : w2.frozen? ⟨g, 1, none⟩ = false := hb.frozen 1
  have hr1 : Rr (w2.setCell ⟨g, 1, none⟩ (.int .i64 ((a : Int) + (1 : Nat)))) g S (r, false) := Rr.step (n := 1) hb hs (by simp) ha
  have HR1 := Lib.hid hr1; have HG := Lib.hid hq2
  clear d2 hb hs hr1 hq2
  go_wp2_with fail
  go_loopg [3] r.length (fun k o X => ∃ l acc, o = .string (B acc) ∧ SRel g S w res k l acc X)
  case atStart => exact ⟨r, [], rfl, HR1.out, grown_set2 HG.out _ _, by simp [qrest, HQ.out], Nat.le_refl _, by simp; omega⟩
  case round =>
    obtain ⟨l, acc, rfl, hq⟩ := hrel
    have HX := Lib.hid hq
    have hlen : l.length ≤ 1048576 := by have := hq.all; omega
    have hacc : acc.length ≤ 1048576 := by have := hq.all; omega
    have hrest := hq.rd.rest
    simp only at hrest
    have HRS := Lib.hid hrest
    clear hq hrest
    rcases l with _ | ⟨c, t⟩
    · have hrs : res = none := by rw [← HX.out.res]; exact qrest_nil false acc
      have HN := Lib.hid hrs
      clear hrs
      go_wp2_with fail
      refine HRS.out.mono ?_
      rintro e x1 ⟨rfl, d1⟩
      have DX := Lib.hid d1
      clear d1
      go_wp2_with fail
      refine (refFail_any g S ([], false) _ (rr_drewOf DX.out HX.out.rd)).mono ?_
      rintro e x2 ⟨rfl, k2, q2⟩
      go_wp2_with fail
      go_ret
      rw [HP.out, HN.out]
      exact ⟨rfl, k2, grown_then (grown_then HX.out.grown (grown_drewOf DX.out _)) q2⟩
    · by_cases he : c = 13 ∨ c = 10
      · have hrs : res = none := by rw [← HX.out.res]; exact qrest_ends c t acc he
        have HN := Lib.hid hrs
        clear hrs
        rcases he with rfl | rfl
        all_goals
          go_wp2_with fail
          refine HRS.out.mono ?_
          rintro e x1 ⟨rfl, d1⟩
          have DX := Lib.hid d1
          clear d1
          go_wp2_with fail
          refine (refFail_any g S (_, false) _ (rr_drewOf DX.out HX.out.rd)).mono ?_
          rintro e x2 ⟨rfl, k2, q2⟩
          go_wp2_with fail
          go_ret
          rw [HP.out, HN.out]
          exact ⟨rfl, k2, grown_then (grown_then HX.out.grown (grown_drewOf DX.out _)) q2⟩
      · have e13 : ((c.toNat : Int) == 13) = false := byte_ne (d := 13) 13 rfl (fun e => he (.inl e))
        have e10 : ((c.toNat : Int) == 10) = false := byte_ne (d := 10) 10 rfl (fun e => he (.inr e))
        by_cases h34 : c = 34
        · subst h34
          have hrs : res = some (acc, t) := by rw [← HX.out.res]; exact qrest_quote t acc
          have HN := Lib.hid hrs
          clear hrs he e13 e10
          go_wp2_with fail
          refine HRS.out.mono ?_
          rintro e x1 ⟨rfl, d1⟩
          obtain ⟨a1, ha1, hb1, hs1⟩ := rr_drewOf d1 HX.out.rd
          replace hs1 : (34 :: t : List UInt8) = S.drop a1 := hs1
          have hal : a1 + 1 ≤ S.length := by
            have : (34 :: t : List UInt8).length = S.length - a1 := by rw [hs1]; simp
            simp at this; omega
          have z1 : x1.cell? ⟨g, 1, none⟩ = some (.int .i64 a1) := hb1.cell 1
          have y1 : x1.frozen? ⟨g, 1, none⟩ = false := hb1.frozen 1
          have DX := Lib.hid d1; have HB := Lib.hid hb1; have HSS := Lib.hid hs1
          clear d1 hb1 hs1 c1 f1
          go_wp2_with fail
          go_ret
          rw [HP.out, HN.out]
          exact ⟨rfl, Rr.step (n := 1) HB.out HSS.out (by simp) ha1, grown_set2 (grown_then HX.out.grown (grown_drewOf DX.out _)) _ _⟩
        · have e34 : ((c.toNat : Int) == 34) = false := byte_ne (d := 34) 34 rfl h34
          by_cases h92 : c = 92
          · subst h92
            rcases t with _ | ⟨d, t⟩
            · have hrs : res = none := by rw [← HX.out.res]; exact qrest_end acc
              have HN := Lib.hid hrs
              clear hrs he e13 e10 h34 e34
              go_wp2_with fail
              refine HRS.out.mono ?_
              rintro e x1 ⟨rfl, d1⟩
              have DX := Lib.hid d1
              clear d1
              go_wp2_with fail
              refine (refFail_any g S (_, false) _ (rr_drewOf DX.out HX.out.rd)).mono ?_
              rintro e x2 ⟨rfl, k2, q2⟩
              go_wp2_with fail
              go_ret
              rw [HP.out, HN.out]
              exact ⟨rfl, k2, grown_then (grown_then HX.out.grown (grown_drewOf DX.out _)) q2⟩
            · by_cases hd : d = 34 ∨ d = 92
              · have hrs := HX.out.res
                rw [qrest_two d t acc hd] at hrs
                have HN := Lib.hid hrs
                have hcut : (B (92 :: d :: t)).extract 1 2 = B [d] := by rw [B_mid]; rfl
                have hdd : ((d.toNat : Int) = 34) ∨ ((d.toNat : Int) = 92) := by rcases hd with rfl | rfl; exact .inl rfl; exact .inr rfl
                clear hrs he e13 e10 h34 e34 hd
                rcases hdd with hdd | hdd
                · have e1 : ((d.toNat : Int) != 34) = false := by simp [hdd]
                  clear hdd
                  go_wp2_with fail
                  refine HRS.out.mono ?_
                  rintro e x1 ⟨rfl, d1⟩
                  obtain ⟨a1, ha1, hb1, hs1⟩ := rr_drewOf d1 HX.out.rd
                  replace hs1 : (92 :: d :: t : List UInt8) = S.drop a1 := hs1
                  have hal : a1 + 2 ≤ S.length := by
                    have : (92 :: d :: t : List UInt8).length = S.length - a1 := by rw [hs1]; simp
                    simp at this; omega
                  have z1 : x1.cell? ⟨g, 1, none⟩ = some (.int .i64 a1) := hb1.cell 1
                  have y1 : x1.frozen? ⟨g, 1, none⟩ = false := hb1.frozen 1
                  have DX := Lib.hid d1; have HB := Lib.hid hb1; have HSS := Lib.hid hs1
                  have hlk := HX.out.len
                  have hall := HX.out.all
                  simp only [List.length_cons] at hlk hall
                  clear d1 hb1 hs1 c1 f1
                  go_wp2_with fail
                  go_roundg (gk - 1)
                  case measure => omega
                  case rel => exact ⟨t, acc ++ [d], rfl, Rr.step (n := 2) HB.out HSS.out (by simp) ha1, grown_set2 (grown_then HX.out.grown (grown_drewOf DX.out _)) _ _, HN.out, by omega, by simp; omega⟩
                · have e1 : ((d.toNat : Int) != 34) = true := by simp [hdd]
                  have e2 : ((d.toNat : Int) != 92) = false := by simp [hdd]
                  clear hdd
                  go_wp2_with fail
                  refine HRS.out.mono ?_
                  rintro e x1 ⟨rfl, d1⟩
                  obtain ⟨a1, ha1, hb1, hs1⟩ := rr_drewOf d1 HX.out.rd
                  replace hs1 : (92 :: d :: t : List UInt8) = S.drop a1 := hs1
                  have hal : a1 + 2 ≤ S.length := by
                    have : (92 :: d :: t : List UInt8).length = S.length - a1 := by rw [hs1]; simp
                    simp at this; omega
                  have z1 : x1.cell? ⟨g, 1, none⟩ = some (.int .i64 a1) := hb1.cell 1
                  have y1 : x1.frozen? ⟨g, 1, none⟩ = false := hb1.frozen 1
                  have DX := Lib.hid d1; have HB := Lib.hid hb1; have HSS := Lib.hid hs1
                  have hlk := HX.out.len
                  have hall := HX.out.all
                  simp only [List.length_cons] at hlk hall
                  clear d1 hb1 hs1 c1 f1
                  go_wp2_with fail
                  go_roundg (gk - 1)
                  case measure => omega
                  case rel => exact ⟨t, acc ++ [d], rfl, Rr.step (n := 2) HB.out HSS.out (by simp) ha1, grown_set2 (grown_then HX.out.grown (grown_drewOf DX.out _)) _ _, HN.out, by omega, by simp; omega⟩
              · have hrs : res = none := by rw [← HX.out.res]; exact qrest_bad d t acc hd
                have HN := Lib.hid hrs
                have e1 : ((d.toNat : Int) != 34) = true := by rw [bne, byte_ne (d := 34) 34 rfl (fun e => hd (.inl e))]; rfl
                have e2 : ((d.toNat : Int) != 92) = true := by rw [bne, byte_ne (d := 92) 92 rfl (fun e => hd (.inr e))]; rfl
                clear hrs he e13 e10 h34 e34 hd
                go_wp2_with fail
                refine HRS.out.mono ?_
                rintro e x1 ⟨rfl, d1⟩
                have DX := Lib.hid d1
                clear d1
                go_wp2_with fail
                refine (refFail_any g S (_, false) _ (rr_drewOf DX.out HX.out.rd)).mono ?_
                rintro e x2 ⟨rfl, k2, q2⟩
                go_wp2_with fail
                go_ret
                rw [HP.out, HN.out]
                exact ⟨rfl, k2, grown_then (grown_then HX.out.grown (grown_drewOf DX.out _)) q2⟩
          · have e92 : ((c.toNat : Int) == 92) = false := byte_ne (d := 92) 92 rfl h92
            have hrs := HX.out.res
            rw [qrest_one c t acc h34 he h92] at hrs
            have HN := Lib.hid hrs
            clear hrs he h34 h92
            go_wp2_with fail
            refine HRS.out.mono ?_
            rintro e x1 ⟨rfl, d1⟩
            obtain ⟨a1, ha1, hb1, hs1⟩ := rr_drewOf d1 HX.out.rd
            replace hs1 : (c :: t : List UInt8) = S.drop a1 := hs1
            have hal : a1 + 1 ≤ S.length := by
              have : (c :: t : List UInt8).length = S.length - a1 := by rw [hs1]; simp
              simp at this; omega
            have z1 : x1.cell? ⟨g, 1, none⟩ = some (.int .i64 a1) := hb1.cell 1
            have y1 : x1.frozen? ⟨g, 1, none⟩ = false := hb1.frozen 1
            have DX := Lib.hid d1; have HB := Lib.hid hb1; have HSS := Lib.hid hs1
            have hlk := HX.out.len
            have hall := HX.out.all
            simp only [List.length_cons] at hlk hall
            clear d1 hb1 hs1 c1 f1
            go_wp2_with fail
            go_roundg (gk - 1)
            case measure => omega
            case rel => exact ⟨t, acc ++ [c], rfl, Rr.step (n := 1) HB.out HSS.out (by simp) ha1, grown_set2 (grown_then HX.out.grown (grown_drewOf DX.out _)) _ _, HN.out, by omega, by simp; omega⟩

end Go.Proofs.YtmgifbibhodbbaaDoor

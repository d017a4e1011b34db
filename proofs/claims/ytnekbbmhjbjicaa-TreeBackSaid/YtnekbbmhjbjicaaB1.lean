/- The walk of TreeBack. -/
import Derived.Test.YtnekbbmhjbjicaaA14
namespace Go.Proofs.Ytnekbbmhjbjicaa
open Go.RowKit

theorem sorted_find {L : List Rc} (hs : Sorted L) {k : Nat} {r : Rc} (hk : L[k]? = some r) : findR L r.uid = some r := by
  refine findR_some hk rfl fun i x hi hx => ?_
  obtain ⟨h1, h2⟩ := List.getElem?_eq_some_iff.1 hk
  obtain ⟨h3, h4⟩ := List.getElem?_eq_some_iff.1 hx
  have := (List.pairwise_iff_getElem.1 hs) i k h3 h1 hi
  rw [h2, h4] at this
  omega

theorem sorted_rank : ∀ {L : List Rc}, Sorted L → ∀ {k : Nat} {r : Rc}, L[k]? = some r → rankR L r.uid = k ∧ rankR L (r.uid + 1) = k + 1
  | [], _, k, r, h => by simp at h
  | a :: L, hs, 0, r, h => by
    simp at h; subst h
    have hz : ∀ u, u ≤ a.uid + 1 → L.countP (fun x => decide (x.uid < u)) = 0 := fun u hu => by
      rw [List.countP_eq_zero]
      intro b hb
      have := (List.pairwise_cons.1 hs).1 b hb
      simp; omega
    unfold rankR
    rw [List.countP_cons, List.countP_cons, hz _ (by omega), hz _ (by omega)]
    simp
  | a :: L, hs, k + 1, r, h => by
    have h' : L[k]? = some r := by simpa using h
    obtain ⟨i1, i2⟩ := sorted_rank (List.pairwise_cons.1 hs).2 h'
    have har : a.uid < r.uid := (List.pairwise_cons.1 hs).1 r (List.mem_of_getElem? h')
    have har2 : a.uid < r.uid + 1 := by omega
    unfold rankR at *
    rw [List.countP_cons, List.countP_cons, i1, i2]
    simp [har, har2]

set_option maxRecDepth 100000 in
set_option maxHeartbeats 2000000 in
theorem back60_any (A : Option Addr) (c : Nat) (L : List Rc) (m : Nat) (w : World) (hm : m < 256) (hok : ∀ r ∈ L, r.uid < 4294967296) (hl : RecsAt w w.heap.size A L) (hlen : L.length ≤ maxLen) :
    Calls Try.prog 4 #[.slice A L.length c, .int .u8 m] w fun e w' => e = .returned (.bool true) ∧ Below w.heap.size w w' := by
  have hgr := great_any A c w.heap.size L 60 w (Nat.le_refl _) hl hlen (by omega)
  have e60 : ((60 : Nat) : Int) = 60 := rfl
  rw [e60] at hgr
  cases hg : greatB L 60 with
  | true =>
    rw [hg] at hgr
    have HGR := Lib.hid hgr
    clear hgr e60
    go_enter Try.func4, Try.ntmps4
    go_wp2_with (first
      | (go_at_call 10; refine HGR.out.mono ?_; rintro e w1 ⟨rfl, hb1⟩))
    go_ret
    exact ⟨rfl, hb1⟩
  | false =>
    rw [hg] at hgr
    obtain ⟨hl60, hrb⟩ := greatB_false hg
    obtain ⟨hso, hup⟩ := rightB_sorted hrb
    have hst : ∀ w1 : World, Below w.heap.size w w1 → Calls Try.prog 11 #[.slice A L.length c, .int .i64 0, .int .i64 ((m : Int) % 9)] w1 (StandOK L 0 (m % 9) w1) := fun w1 hb => by
      have := standOK A c 0 (m % 9) L w1 hso hok (fun he => by
        obtain ⟨g, o, h2, h3, h4⟩ := hl.below hb he
        have := hb.size
        exact ⟨g, o, h2, by omega, h4⟩) (by omega) (by omega) (by omega)
      have e : ((m % 9 : Nat) : Int) = (m : Int) % 9 := by omega
      have e0 : ((0 : Nat) : Int) = 0 := rfl
      rw [e, e0] at this
      exact this
    have HGR := Lib.hid hgr; have HST := Lib.hid hst; have HSO := Lib.hid hso; have HOK := Lib.hid hok
    clear hgr hst e60 hg hrb hup hso hok
    go_enter Try.func4, Try.ntmps4
    go_wp2_with (first
      | (go_at_call 10; refine HGR.out.mono ?_; rintro e w1 ⟨rfl, hb1⟩))
    refine (HST.out _ hb1).mono ?_
    rintro e w2 ⟨V, vc, sh, root, h, rfl, hsh, ht, hb2, _, _⟩
    have hbw2 : Below w.heap.size w w2 := below_on hb1 hb2
    have hstore := shelf_store V vc w2.heap.size sh
    have HT := Lib.hid ht; have HS := Lib.hid hstore; have HSH := Lib.hid hsh; have HB2 := Lib.hid hbw2
    have hin : ∀ W : World, Below w2.heap.size w2 W → (w2.heap.size ≤ W.heap.size ∧ ShelfAt W w2.heap.size V sh) := fun W hb => ⟨hb.size, HSH.out.below hb⟩
    have HIN := Lib.hid hin
    clear ht hstore hsh hbw2 hin hb1 hb2
    go_wp2_with fail
    go_loopw [7] (fun x wr => ∃ k : Nat, k ≤ L.length ∧ x = .int .i64 k ∧ Below w2.heap.size w2 wr ∧ Blk wr w2.heap.size 28 #[.int .i64 root, .int .i64 h])
      (fun x _ => (L.length - intOf x).toNat)
    case atStart => exact ⟨0, by omega, rfl, below_alloc (Below.refl _ _) _, Blk.new _ _ _⟩
    case round =>
      obtain ⟨k, hk, rfl, hB, hb28⟩ := hrel
      have HB := Lib.hid hB; have H28 := Lib.hid hb28
      have c80 : wr.cell? ⟨w2.heap.size, 0, none⟩ = some (.int .i64 root) := hb28.cell 0
      have c81 : wr.cell? ⟨w2.heap.size, 1, none⟩ = some (.int .i64 h) := hb28.cell 1
      have hlt0 := hb28.lt
      clear hB hb28
      by_cases hlt : k < L.length
      · obtain ⟨r, hr⟩ : ∃ r, L[k]? = some r := ⟨_, List.getElem?_eq_getElem hlt⟩
        have hru : r.uid < 4294967296 := HOK.out r (List.mem_of_getElem? hr)
        obtain ⟨hrk1, hrk2⟩ := sorted_rank HSO.out hr
        have hsel := fun (W : World) (hb : Below w2.heap.size w2 W) => tSelect HS.out HT.out k r hr W (HIN.out W hb)
        rw [recV_some] at hsel
        have hget := fun (W : World) (hb : Below w2.heap.size w2 W) => tGet HS.out HT.out r.uid hru W (HIN.out W hb)
        rw [sorted_find HSO.out hr, recV_some] at hget
        have hrank := fun (W : World) (hb : Below w2.heap.size w2 W) => tRank HS.out HT.out r.uid hru W (HIN.out W hb)
        rw [hrk1] at hrank
        have HSEL := Lib.hid hsel; have HGET := Lib.hid hget; have HRANK := Lib.hid hrank
        have HRK := Lib.hid hrk2
        clear hsel hget hrank hr hrk1 hrk2
        by_cases hmax : r.uid < 4294967295
        · have hrank2 := fun (W : World) (hb : Below w2.heap.size w2 W) => tRank HS.out HT.out (r.uid + 1) (by omega) W (HIN.out W hb)
          rw [HRK.out] at hrank2
          have e1 : ((r.uid + 1 : Nat) : Int) = (r.uid : Int) + 1 := by omega
          have e2 : ((k + 1 : Nat) : Int) = (k : Int) + 1 := by omega
          rw [e1, e2] at hrank2
          have HRANK2 := Lib.hid hrank2
          have hdm : decide ((r.uid : Int) < 4294967295) = true := by simp; omega
          clear hrank2 e1 e2
          go_wp2_with fail
          refine (HSEL.out _ HB.out).mono ?_
          rintro e w3 ⟨rfl, hb3⟩
          have h28 := H28.out.stay hb3
          have q80 : w3.cell? ⟨w2.heap.size, 0, none⟩ = some (.int .i64 root) := h28.cell 0
          have q81 : w3.cell? ⟨w2.heap.size, 1, none⟩ = some (.int .i64 h) := h28.cell 1
          have hlt3 := h28.lt
          have HB3 := Lib.hid (below_on HB.out hb3); have H283 := Lib.hid h28
          clear hb3 h28 c80 c81 hlt0
          go_wp2_with fail
          refine (HGET.out _ (below_alloc HB3.out _)).mono ?_
          rintro e w4 ⟨rfl, hb4⟩
          have h28 := (H283.out.alloc (.cells #[.int .u32 r.uid, .int .u8 r.fl, .string r.txt] 33)).stay hb4
          have h8 := (Blk.new w3 33 #[.int .u32 r.uid, .int .u8 r.fl, .string r.txt]).stay hb4
          have p80 : w4.cell? ⟨w2.heap.size, 0, none⟩ = some (.int .i64 root) := h28.cell 0
          have p81 : w4.cell? ⟨w2.heap.size, 1, none⟩ = some (.int .i64 h) := h28.cell 1
          obtain ⟨s0, s1, s2, _⟩ := h8.three
          have hlt4 := h28.lt
          have hlt8 := h8.lt
          have HB4 := Lib.hid (below_on (below_alloc HB3.out _) hb4); have H284 := Lib.hid h28; have H84 := Lib.hid h8
          clear hb4 h28 h8 q80 q81 hlt3
          go_wp2_with fail
          refine (HRANK.out _ (below_alloc HB4.out _)).mono ?_
          rintro e w5 ⟨rfl, hb5⟩
          have h28 := (H284.out.alloc (.cells #[.int .u32 r.uid, .int .u8 r.fl, .string r.txt] 33)).stay hb5
          have h8 := (H84.out.alloc (.cells #[.int .u32 r.uid, .int .u8 r.fl, .string r.txt] 33)).stay hb5
          have r80 : w5.cell? ⟨w2.heap.size, 0, none⟩ = some (.int .i64 root) := h28.cell 0
          have r81 : w5.cell? ⟨w2.heap.size, 1, none⟩ = some (.int .i64 h) := h28.cell 1
          obtain ⟨y0, y1, y2, _⟩ := h8.three
          have hlt5 := h28.lt
          have HB5 := Lib.hid (below_on (below_alloc HB4.out _) hb5); have H285 := Lib.hid h28
          clear hb5 h28 h8 p80 p81 s0 s1 s2 hlt4 hlt8
          go_wp2_with fail
          refine (HRANK2.out _ HB5.out).mono ?_
          rintro e w6 ⟨rfl, hb6⟩
          have h28 := H285.out.stay hb6
          have HB6 := Lib.hid (below_on HB5.out hb6); have H286 := Lib.hid h28
          clear hb6 h28
          go_wp2_with fail
          go_roundw
          case rel => exact ⟨k + 1, by omega, by go_num, HB6.out, H286.out⟩
          case measure => simp [intOf]; omega
        · have hdm : decide ((r.uid : Int) < 4294967295) = false := by simp; omega
          go_wp2_with fail
          refine (HSEL.out _ HB.out).mono ?_
          rintro e w3 ⟨rfl, hb3⟩
          have h28 := H28.out.stay hb3
          have q80 : w3.cell? ⟨w2.heap.size, 0, none⟩ = some (.int .i64 root) := h28.cell 0
          have q81 : w3.cell? ⟨w2.heap.size, 1, none⟩ = some (.int .i64 h) := h28.cell 1
          have hlt3 := h28.lt
          have HB3 := Lib.hid (below_on HB.out hb3); have H283 := Lib.hid h28
          clear hb3 h28 c80 c81 hlt0
          go_wp2_with fail
          refine (HGET.out _ (below_alloc HB3.out _)).mono ?_
          rintro e w4 ⟨rfl, hb4⟩
          have h28 := (H283.out.alloc (.cells #[.int .u32 r.uid, .int .u8 r.fl, .string r.txt] 33)).stay hb4
          have h8 := (Blk.new w3 33 #[.int .u32 r.uid, .int .u8 r.fl, .string r.txt]).stay hb4
          have p80 : w4.cell? ⟨w2.heap.size, 0, none⟩ = some (.int .i64 root) := h28.cell 0
          have p81 : w4.cell? ⟨w2.heap.size, 1, none⟩ = some (.int .i64 h) := h28.cell 1
          obtain ⟨s0, s1, s2, _⟩ := h8.three
          have hlt4 := h28.lt
          have hlt8 := h8.lt
          have HB4 := Lib.hid (below_on (below_alloc HB3.out _) hb4); have H284 := Lib.hid h28; have H84 := Lib.hid h8
          clear hb4 h28 h8 q80 q81 hlt3
          go_wp2_with fail
          refine (HRANK.out _ (below_alloc HB4.out _)).mono ?_
          rintro e w5 ⟨rfl, hb5⟩
          have h28 := (H284.out.alloc (.cells #[.int .u32 r.uid, .int .u8 r.fl, .string r.txt] 33)).stay hb5
          have h8 := (H84.out.alloc (.cells #[.int .u32 r.uid, .int .u8 r.fl, .string r.txt] 33)).stay hb5
          have r80 : w5.cell? ⟨w2.heap.size, 0, none⟩ = some (.int .i64 root) := h28.cell 0
          have r81 : w5.cell? ⟨w2.heap.size, 1, none⟩ = some (.int .i64 h) := h28.cell 1
          obtain ⟨y0, y1, y2, _⟩ := h8.three
          have hlt5 := h28.lt
          have HB5 := Lib.hid (below_on (below_alloc HB4.out _) hb5); have H285 := Lib.hid h28
          clear hb5 h28 h8 p80 p81 s0 s1 s2 hlt4 hlt8
          go_wp2_with fail
          go_roundw
          case rel => exact ⟨k + 1, by omega, by go_num, HB5.out, H285.out⟩
          case measure => simp [intOf]; omega
      · have hsel := fun (W : World) (hb : Below w2.heap.size w2 W) => tSelect_no HS.out HT.out (L.length : Int) (.inr (Int.le_refl _)) W (HIN.out W hb)
        rw [recV_none] at hsel
        have HSEL := Lib.hid hsel
        clear hsel
        go_wp2_with fail
        refine (HSEL.out _ HB.out).mono ?_
        rintro e w3 ⟨rfl, hb3⟩
        have HB3 := Lib.hid (below_on HB.out hb3)
        clear hb3 c80 c81
        go_wp2_with (first
          | (go_at_call 21; refine (awake_any _).mono ?_; rintro e w4 ⟨rfl, hb4⟩))
        go_ret
        exact ⟨rfl, below_on HB2.out (below_on (below_alloc HB3.out _) hb4)⟩

end Go.Proofs.Ytnekbbmhjbjicaa

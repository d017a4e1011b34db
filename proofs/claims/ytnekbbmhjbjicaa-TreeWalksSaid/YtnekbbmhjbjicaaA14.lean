/- The walk of TreeTells. -/
import Derived.Test.YtnekbbmhjbjicaaA13
import Derived.Deep.RegionHeld3
namespace Go.Proofs.Ytnekbbmhjbjicaa
open Go.RowKit

theorem recV_some (r : Rc) : recV (some r) = .tuple #[.agg #[.int .u32 r.uid, .int .u8 r.fl, .string r.txt], .bool true] := rfl
theorem recV_none : recV none = .tuple #[.agg #[.int .u32 0, .int .u8 0, .string ⟨#[]⟩], .bool false] := rfl

/-- what Get tells, taken apart -/
theorem recV_cases (o : Option Rc) : ∃ (u f : Int) (t : ByteArray) (b : Bool), recV o = .tuple #[.agg #[.int .u32 u, .int .u8 f, .string t], .bool b] := ⟨_, _, _, _, rfl⟩

theorem stay8 {w w' : World} {B8 B9 B11 : Nat} {root h u0 f0 u1 f1 : Int} {t0 t1 : ByteArray} (hb : Below w.heap.size w w')
    (hs : w.cell? ⟨B8, 0, none⟩ = some (.int .i64 root) ∧ w.cell? ⟨B8, 1, none⟩ = some (.int .i64 h) ∧
        w.cell? ⟨B9, 0, none⟩ = some (.int .u32 u0) ∧ w.cell? ⟨B9, 1, none⟩ = some (.int .u8 f0) ∧ w.cell? ⟨B9, 2, none⟩ = some (.string t0) ∧
        w.cell? ⟨B11, 0, none⟩ = some (.int .u32 u1) ∧ w.cell? ⟨B11, 1, none⟩ = some (.int .u8 f1) ∧ w.cell? ⟨B11, 2, none⟩ = some (.string t1)) :
    w'.cell? ⟨B8, 0, none⟩ = some (.int .i64 root) ∧ w'.cell? ⟨B8, 1, none⟩ = some (.int .i64 h) ∧
        w'.cell? ⟨B9, 0, none⟩ = some (.int .u32 u0) ∧ w'.cell? ⟨B9, 1, none⟩ = some (.int .u8 f0) ∧ w'.cell? ⟨B9, 2, none⟩ = some (.string t0) ∧
        w'.cell? ⟨B11, 0, none⟩ = some (.int .u32 u1) ∧ w'.cell? ⟨B11, 1, none⟩ = some (.int .u8 f1) ∧ w'.cell? ⟨B11, 2, none⟩ = some (.string t1) := by
  obtain ⟨h1, h2, h3, h4, h5, h6, h7, h8⟩ := hs
  have k : ∀ (a : Addr) (v : Value), w.cell? a = some v → w'.cell? a = some v := fun a v h => (hb.cell (World.block_lt_of_cell? w a h)).trans h
  exact ⟨k _ _ h1, k _ _ h2, k _ _ h3, k _ _ h4, k _ _ h5, k _ _ h6, k _ _ h7, k _ _ h8⟩

theorem stay6 {w w' : World} {B9 g i0 i1 i2 : Nat} {u0 f0 u1 f1 : Int} {t0 t1 : ByteArray} (hb : Below w.heap.size w w')
    (hs : w.cell? ⟨B9, 0, none⟩ = some (.int .u32 u0) ∧ w.cell? ⟨B9, 1, none⟩ = some (.int .u8 f0) ∧ w.cell? ⟨B9, 2, none⟩ = some (.string t0) ∧
        w.cell? ⟨g, i0, none⟩ = some (.int .u32 u1) ∧ w.cell? ⟨g, i1, none⟩ = some (.int .u8 f1) ∧ w.cell? ⟨g, i2, none⟩ = some (.string t1)) :
    w'.cell? ⟨B9, 0, none⟩ = some (.int .u32 u0) ∧ w'.cell? ⟨B9, 1, none⟩ = some (.int .u8 f0) ∧ w'.cell? ⟨B9, 2, none⟩ = some (.string t0) ∧
        w'.cell? ⟨g, i0, none⟩ = some (.int .u32 u1) ∧ w'.cell? ⟨g, i1, none⟩ = some (.int .u8 f1) ∧ w'.cell? ⟨g, i2, none⟩ = some (.string t1) := by
  obtain ⟨h3, h4, h5, h6, h7, h8⟩ := hs
  have k : ∀ (a : Addr) (v : Value), w.cell? a = some v → w'.cell? a = some v := fun a v h => (hb.cell (World.block_lt_of_cell? w a h)).trans h
  exact ⟨k _ _ h3, k _ _ h4, k _ _ h5, k _ _ h6, k _ _ h7, k _ _ h8⟩

set_option maxRecDepth 100000 in
set_option maxHeartbeats 2000000 in
theorem tells_any (A : Option Addr) (c : Nat) (L : List Rc) (u : Nat) (k : Int) (w : World) (hu : u < 4294967296) (hok : ∀ r ∈ L, r.uid < 4294967296) (hl : RecsAt w w.heap.size A L) (hlen : L.length ≤ maxLen) :
    Calls Try.prog 3 #[.slice A L.length c, .int .u32 u, .int .i64 k] w fun e w' => e = .returned (.bool true) ∧ Below w.heap.size w w' := by
  have hgr := great_any A c w.heap.size L 120 w (Nat.le_refl _) hl hlen (by omega)
  have e120 : ((120 : Nat) : Int) = 120 := rfl
  rw [e120] at hgr
  cases hg : greatB L 120 with
  | true =>
    rw [hg] at hgr
    have HGR := Lib.hid hgr
    clear hgr e120
    go_enter Try.func3, Try.ntmps3
    go_wp2_with (first
      | (go_at_call 10; refine HGR.out.mono ?_; rintro e w1 ⟨rfl, hb1⟩))
    go_ret
    exact ⟨rfl, hb1⟩
  | false =>
    rw [hg] at hgr
    obtain ⟨hl120, hrb⟩ := greatB_false hg
    obtain ⟨hso, hup⟩ := rightB_sorted hrb
    obtain ⟨u0, f0, t0, b0, hfind⟩ := recV_cases (findR L u)
    have hrecs : ∀ w1 : World, Below w.heap.size w w1 → RecsAt w1 w1.heap.size A L := fun w1 hb he => by
      obtain ⟨g, o, h2, h3, h4⟩ := hl.below hb he
      have := hb.size
      exact ⟨g, o, h2, by omega, h4⟩
    have hst : ∀ w1 : World, Below w.heap.size w w1 → Calls Try.prog 11 #[.slice A L.length c, .int .i64 3, .int .i64 ((u : Int) % 3)] w1 (StandOK L 3 (u % 3) w1) := fun w1 hb => by
      have := standOK A c 3 (u % 3) L w1 hso hok (hrecs w1 hb) (by omega) (by omega) (by omega)
      have e : ((u % 3 : Nat) : Int) = (u : Int) % 3 := by omega
      rw [e] at this
      exact this
    have HGR := Lib.hid hgr; have HST := Lib.hid hst; have HF := Lib.hid hfind; have HRECS := Lib.hid hrecs
    clear hgr hst e120 hg hrb hfind hrecs
    go_enter Try.func3, Try.ntmps3
    go_wp2_with (first
      | (go_at_call 10; refine HGR.out.mono ?_; rintro e w1 ⟨rfl, hb1⟩))
    refine (HST.out _ hb1).mono ?_
    rintro e w2 ⟨V, vc, sh, root, h, rfl, hsh, ht, hb2, _, _⟩
    have hbw2 : Below w.heap.size w w2 := below_on hb1 hb2
    have hstore := shelf_store V vc w2.heap.size sh
    have HT := Lib.hid ht; have HS := Lib.hid hstore; have HSH := Lib.hid hsh; have HB2 := Lib.hid hbw2
    have hin : ∀ W : World, Below w2.heap.size w2 W → (w2.heap.size ≤ W.heap.size ∧ ShelfAt W w2.heap.size V sh) := fun W hb => ⟨hb.size, HSH.out.below hb⟩
    have HIN := Lib.hid hin
    have hget : ∀ W : World, Below w2.heap.size w2 W → Calls Try.prog 12 #[.agg #[.int .i64 root, .int .i64 h], .iface 26 (.slice V sh.length vc), .int .u32 u] W fun e w' =>
        e = .returned (.tuple #[.agg #[.int .u32 u0, .int .u8 f0, .string t0], .bool b0]) ∧ Below W.heap.size W w' := fun W hb => by
      have := tGet HS.out HT.out u hu W (HIN.out W hb)
      rw [HF.out] at this
      exact this
    have hrget : ∀ W : World, Below w.heap.size w W → Calls Try.prog 13 #[.slice A L.length c, .int .u32 u] W fun e w' =>
        e = .returned (.tuple #[.agg #[.int .u32 u0, .int .u8 f0, .string t0], .bool b0]) ∧ Below W.heap.size W w' := fun W hb => by
      have := refGet_any A c W.heap.size L u W (Nat.le_refl _) (HRECS.out W hb) (by omega)
      rw [HF.out] at this
      exact this
    have hrank : ∀ W : World, Below w2.heap.size w2 W → Calls Try.prog 15 #[.agg #[.int .i64 root, .int .i64 h], .iface 26 (.slice V sh.length vc), .int .u32 u] W fun e w' =>
        e = .returned (.int .i64 (rankR L u)) ∧ Below W.heap.size W w' := fun W hb => tRank HS.out HT.out u hu W (HIN.out W hb)
    have hrrank : ∀ W : World, Below w.heap.size w W → Calls Try.prog 16 #[.slice A L.length c, .int .u32 u] W fun e w' =>
        e = .returned (.int .i64 (rankR L u)) ∧ W = w' := fun W hb => refRank_any A c W.heap.size L u W (HRECS.out W hb) (by omega)
    have hlen : ∀ W : World, Below w2.heap.size w2 W → Calls Try.prog 17 #[.agg #[.int .i64 root, .int .i64 h], .iface 26 (.slice V sh.length vc)] W fun e w' =>
        e = .returned (.int .i64 L.length) ∧ Below W.heap.size W w' := fun W hb => tLen HS.out HT.out W (HIN.out W hb)
    have HGET := Lib.hid hget; have HRGET := Lib.hid hrget; have HRANK := Lib.hid hrank; have HRRANK := Lib.hid hrrank; have HLEN := Lib.hid hlen
    clear ht hstore hsh hbw2 hin hget hrget hrank hrrank hlen hb1 hb2 hso hup
    go_wp2_with (first
      | (go_at_call 12; refine (HGET.out _ (below_alloc (Below.refl w2.heap.size w2) _)).mono ?_; rintro e w3 ⟨rfl, hb3⟩; have h3 := below_on (below_alloc (Below.refl w2.heap.size w2) _) hb3; have H3 := Lib.hid h3; have hc3 := bcell hb3; obtain ⟨hc, hf⟩ := hc3; have hz3 : w2.heap.size < w3.heap.size := by have := hb3.size; simp at this; omega)
      | (go_at_call 13; refine (HRGET.out _ (below_on HB2.out (below_alloc H3.out _))).mono ?_; rintro e w4 ⟨rfl, hb4⟩; have h4 := below_on (below_alloc H3.out _) hb4; have H4 := Lib.hid h4; have hc4 := bcell hb4; obtain ⟨hcc, hff⟩ := hc4; have hz4 : w3.heap.size < w4.heap.size := by have := hb4.size; simp at this; omega))
    have h5 : Below w2.heap.size w2 (w4.alloc (.cells #[.int .u32 u0, .int .u8 f0, .string t0] 37)) := below_alloc H4.out _
    have hb8 : Blk (w4.alloc (.cells #[.int .u32 u0, .int .u8 f0, .string t0] 37)) w2.heap.size 28 #[.int .i64 root, .int .i64 h] := ((((Blk.new w2 28 _).stay hb3).alloc _).stay hb4).alloc _
    have hb9 : Blk (w4.alloc (.cells #[.int .u32 u0, .int .u8 f0, .string t0] 37)) w3.heap.size 33 #[.int .u32 u0, .int .u8 f0, .string t0] := ((Blk.new w3 33 _).stay hb4).alloc _
    have hb11 : Blk (w4.alloc (.cells #[.int .u32 u0, .int .u8 f0, .string t0] 37)) w4.heap.size 37 #[.int .u32 u0, .int .u8 f0, .string t0] := Blk.new w4 37 _
    clear hc hf hcc hff hb3 hb4 h3 h4
    revert h5 hb8 hb9 hb11
    generalize w4.alloc (.cells #[.int .u32 u0, .int .u8 f0, .string t0] 37) = w5
    intro h5 hb8 hb9 hb11
    have H5 := Lib.hid h5; have HB8 := Lib.hid hb8; have HB9 := Lib.hid hb9; have HB11 := Lib.hid hb11
    have l8 := hb8.lt; have l9 := hb9.lt; have l11 := hb11.lt
    have c80 : w5.cell? ⟨w2.heap.size, 0, none⟩ = some (.int .i64 root) := hb8.cell 0
    have c81 : w5.cell? ⟨w2.heap.size, 1, none⟩ = some (.int .i64 h) := hb8.cell 1
    obtain ⟨c90, c91, c92, _⟩ := hb9.three
    obtain ⟨d0, d1, d2, _⟩ := hb11.three
    clear h5 hb8 hb9 hb11
    go_region_held3 (fun w' => w'.cell? ⟨w2.heap.size, 0, none⟩ = some (.int .i64 root) ∧ w'.cell? ⟨w2.heap.size, 1, none⟩ = some (.int .i64 h) ∧
        w'.cell? ⟨w3.heap.size, 0, none⟩ = some (.int .u32 u0) ∧ w'.cell? ⟨w3.heap.size, 1, none⟩ = some (.int .u8 f0) ∧ w'.cell? ⟨w3.heap.size, 2, none⟩ = some (.string t0) ∧
        w'.cell? ⟨w4.heap.size, 0, none⟩ = some (.int .u32 u0) ∧ w'.cell? ⟨w4.heap.size, 1, none⟩ = some (.int .u8 f0) ∧ w'.cell? ⟨w4.heap.size, 2, none⟩ = some (.string t0))
      (first | go_keep | exact stay8 hbk (by assumption))
      (first
        | (go_at_call 14; refine (back_any _ _ _ _).mono ?_; rintro e w6 ⟨rfl, hbk⟩; have hb6 := below_on (Below.refl w5.heap.size w5).drew hbk)
        | (go_at_call 15; refine (HRANK.out _ (below_on H5.out hb6)).mono ?_; rintro e w7 ⟨rfl, hbk⟩; have hb7 := below_on hb6 hbk)
        | (go_at_call 16; refine (HRRANK.out _ (below_on HB2.out (below_on H5.out hb7))).mono ?_; rintro e w8 ⟨rfl, rfl⟩)
        | (go_at_call 17; refine (HLEN.out _ (below_on H5.out hb7)).mono ?_; rintro e w9 ⟨rfl, hbk⟩; have hb9 := below_on hb7 hbk)
        | (go_at_call 18; refine (need_any u _ hu).mono ?_; rintro e w10 ⟨rfl, rfl⟩)
        | (go_at_call 19; refine (refNeed_any u _ hu).mono ?_; rintro e w11 ⟨rfl, rfl⟩))
    have hbA : Blk w9 w2.heap.size 28 #[.int .i64 root, .int .i64 h] := HB8.out.stay hb9
    have hbB : Blk w9 w3.heap.size 33 #[.int .u32 u0, .int .u8 f0, .string t0] := HB9.out.stay hb9
    have HBA := Lib.hid hbA; have HBB := Lib.hid hbB; have H9 := Lib.hid (below_on H5.out hb9)
    have e80 : w9.cell? ⟨w2.heap.size, 0, none⟩ = some (.int .i64 root) := hbA.cell 0
    have e81 : w9.cell? ⟨w2.heap.size, 1, none⟩ = some (.int .i64 h) := hbA.cell 1
    clear hbA hbB hb6 hb7 hb9 c80 c81 c90 c91 c92 d0 d1 d2
    by_cases hk : 0 ≤ k ∧ k < L.length
    · obtain ⟨q, rfl⟩ := Int.eq_ofNat_of_zero_le hk.1
      have hq : q < L.length := by omega
      obtain ⟨r, hr⟩ : ∃ r, L[q]? = some r := ⟨_, List.getElem?_eq_getElem hq⟩
      have hsel := fun (W : World) (hb : Below w2.heap.size w2 W) => tSelect HS.out HT.out q r hr W (HIN.out W hb)
      rw [recV_some] at hsel
      have HSEL := Lib.hid hsel; have HR := Lib.hid hr
      have hd1 : decide ((q : Int) < 0) = false := by simp
      have hd2 : decide ((L.length : Int) ≤ q) = false := by simp; omega
      clear hsel hk hr
      go_wp2_with (first
        | (go_at_call 20; refine (HSEL.out _ H9.out).mono ?_; rintro e w10 ⟨rfl, hb10⟩; obtain ⟨k0, k1, k2, kf⟩ := (HBB.out.stay hb10).three; have hlt10 := (HBB.out.stay hb10).lt; have HB10 := Lib.hid hb10; clear hb10))
      have hbS := ((((HBB.out.stay HB10.out).set_ 0 (.int .u32 r.uid)).set_ 1 (.int .u8 r.fl)).set_ 2 (.string r.txt))
      have hbS' : Blk (((w10.setCell ⟨w3.heap.size, 0, none⟩ (.int .u32 r.uid)).setCell ⟨w3.heap.size, 1, none⟩ (.int .u8 r.fl)).setCell ⟨w3.heap.size, 2, none⟩ (.string r.txt)) w3.heap.size 33 #[.int .u32 r.uid, .int .u8 r.fl, .string r.txt] := by simpa using hbS
      have hle3 : w.heap.size ≤ w3.heap.size := by have h1 := HB2.out.size; have h2 := H3.out.size; omega
      have hbw : Below w.heap.size w (((w10.setCell ⟨w3.heap.size, 0, none⟩ (.int .u32 r.uid)).setCell ⟨w3.heap.size, 1, none⟩ (.int .u8 r.fl)).setCell ⟨w3.heap.size, 2, none⟩ (.string r.txt)) :=
        (((below_on (below_on HB2.out H9.out) HB10.out).setCell hle3 _).setCell hle3 _).setCell hle3 _
      clear hbS k0 k1 k2 kf
      revert hbS' hbw
      generalize ((w10.setCell ⟨w3.heap.size, 0, none⟩ (.int .u32 r.uid)).setCell ⟨w3.heap.size, 1, none⟩ (.int .u8 r.fl)).setCell ⟨w3.heap.size, 2, none⟩ (.string r.txt) = w11
      intro hbS hbw
      have HBW := Lib.hid hbw
      obtain ⟨s0, s1, s2, _⟩ := hbS.three
      obtain ⟨g, o, hA, hgl, hcell⟩ := (HRECS.out w11 hbw).at_ hq
      obtain ⟨r0, r1, r2⟩ := hcell q r HR.out
      subst hA
      clear hbS hbw hcell e80 e81 HBA
      have hq0 : (0 : Int) ≤ (q : Int) := Int.natCast_nonneg _
      have hq1 : (q : Int) < (L.length : Int) := by omega
      go_region_held3 (fun w' => w'.cell? ⟨w3.heap.size, 0, none⟩ = some (.int .u32 r.uid) ∧ w'.cell? ⟨w3.heap.size, 1, none⟩ = some (.int .u8 r.fl) ∧ w'.cell? ⟨w3.heap.size, 2, none⟩ = some (.string r.txt) ∧
          w'.cell? ⟨g, o + q * 3, none⟩ = some (.int .u32 r.uid) ∧ w'.cell? ⟨g, o + q * 3 + 1, none⟩ = some (.int .u8 r.fl) ∧ w'.cell? ⟨g, o + q * 3 + 2, none⟩ = some (.string r.txt))
        (first | go_keep | exact stay6 hbk (by assumption))
        (first
          | (go_at_call 14; refine (back_any _ _ _ _).mono ?_; rintro e w12 ⟨rfl, hbk⟩; have hb12 := below_on (Below.drew HBW.out) hbk)
          | (go_at_call 21; refine (awake_any _).mono ?_; rintro e w13 ⟨rfl, hbk⟩; have hb13 := below_on hb12 hbk))
      go_wp2_with fail
      go_ret
      exact ⟨rfl, hb13⟩
    · have hsel := fun (W : World) (hb : Below w2.heap.size w2 W) => tSelect_no HS.out HT.out k (by omega) W (HIN.out W hb)
      rw [recV_none] at hsel
      have HSEL := Lib.hid hsel
      have hle3 : w.heap.size ≤ w3.heap.size := by have h1 := HB2.out.size; have h2 := H3.out.size; omega
      clear hsel
      by_cases hneg : k < 0
      · have hd : decide (k < 0) = true := by simpa using hneg
        clear hk
        go_wp2_with (first
          | (go_at_call 20; refine (HSEL.out _ H9.out).mono ?_; rintro e w10 ⟨rfl, hb10⟩; obtain ⟨k0, k1, k2, kf⟩ := (HBB.out.stay hb10).three; have hlt10 := (HBB.out.stay hb10).lt)
          | (go_at_call 14; refine (back_any _ _ _ _).mono ?_; rintro e w11 ⟨rfl, hb11⟩)
          | (go_at_call 21; refine (awake_any _).mono ?_; rintro e w12 ⟨rfl, hb12⟩))
        go_ret
        exact ⟨rfl, below_on (below_on ((((below_on (below_on HB2.out H9.out) hb10).setCell hle3 _).setCell hle3 _).setCell hle3 _) hb11) hb12⟩
      · have hd : decide (k < 0) = false := by simpa using hneg
        have hd2 : decide ((L.length : Int) ≤ k) = true := by simp; omega
        clear hk
        go_wp2_with (first
          | (go_at_call 20; refine (HSEL.out _ H9.out).mono ?_; rintro e w10 ⟨rfl, hb10⟩; obtain ⟨k0, k1, k2, kf⟩ := (HBB.out.stay hb10).three; have hlt10 := (HBB.out.stay hb10).lt)
          | (go_at_call 14; refine (back_any _ _ _ _).mono ?_; rintro e w11 ⟨rfl, hb11⟩)
          | (go_at_call 21; refine (awake_any _).mono ?_; rintro e w12 ⟨rfl, hb12⟩))
        go_ret
        exact ⟨rfl, below_on (below_on ((((below_on (below_on HB2.out H9.out) hb10).setCell hle3 _).setCell hle3 _).setCell hle3 _) hb11) hb12⟩

end Go.Proofs.Ytnekbbmhjbjicaa

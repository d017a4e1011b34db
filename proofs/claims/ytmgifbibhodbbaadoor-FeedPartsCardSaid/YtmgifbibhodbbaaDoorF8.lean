/- A byte of a line. -/
import Derived.Test.YtmgifbibhodbbaaDoorF7
import Derived.BigRegion
namespace Go.Proofs.YtmgifbibhodbbaaDoor
open Go.RowKit

/-- a method ends with what it called -/
theorem Said.of {B g : Nat} {w w' : World} {r : FS × Told} {s1 : FS} {p : Nat × List UInt8} {e : Ending} {v' : Value} (hr : r = (s1, some p)) (he : e = .returned (.tuple #[.agg #[.int .i64 p.1, .string (bytesOf p.2)], .bool true]))
    (hf : Fd B g w' s1 v') (hfr : Fr g B w w') : Said B g w r e w' := by
  subst hr
  exact ⟨he, ⟨v', hf⟩, hfr⟩

theorem Md.forget {B g r : Nat} {w w' : World} {s : List UInt8} {v : Value} {cs rc : Array Value} (h : Md B g w w' s v cs r rc) : Md B g w w' [] (.slice none 0 0) cs r rc :=
  ⟨h.blk, ⟨rfl, .inl ⟨rfl, rfl⟩⟩, h.res, h.fr, h.lt, h.le, h.ne⟩

set_option maxHeartbeats 1600000 in
set_option maxRecDepth 100000 in
theorem lineF_any {n₀ : Nat} (B g N : Nat) (st : FS) (v : Value) (x : UInt8) (w : World) (h : Fd B g w st v) (hE : Env n₀ w) (hn : n₀ ≤ g) (hm : st.mode = 0) (hok : FS.ok N st) (hN : N < 1000000) :
    Calls Tryd.prog 50 #[.pointer (some ⟨g, 0, none⟩), .int .u8 x.toNat] w (Said B g w (lineF st x)) := by
  obtain ⟨i0, hi, hz0, hz1, hz2⟩ := info_parts Tryd.Builder_Extra_169.infoByte
  have hlen := hok.len
  have hown := hok.own
  obtain ⟨hf1, hf2⟩ := hok.line hm
  have hg : g < w.heap.size := h.blk.lt
  have hB := h.le
  have c0 : w.cell? ⟨g, 0, none⟩ = some v := h.blk.cell 0
  have c5 : w.cell? ⟨g, 5, none⟩ = some (.int .u8 st.last) := h.blk.cell 5
  have f5 := h.blk.frozen 5
  have H0 := h.md.set_ 5 (.int .u8 x.toNat)
  rw [World.setCell_alloc_past _ _ _ _ hg] at H0
  have H := Lib.hid H0; clear h H0
  have HI := Lib.hid hi; clear hi
  have hall := hok.all
  have HE := Lib.hid hE
  clear hok hE
  by_cases hA : st.last = 13 ∧ x = 10
  · obtain ⟨s1, p, hp⟩ := endF_some { st with s := st.s ++ [x], own := st.own + 1, last := 0 }
    have hr : lineF st x = (s1, some p) := by unfold lineF; rw [if_pos hA]; exact hp
    have hd : ((st.last : Int) == (((⟨#[13, 10]⟩ : ByteArray)[0]'(by decide)).toNat : Int)) = true := by rw [hA.1]; rfl
    have he : ((x.toNat : Int) == (((⟨#[13, 10]⟩ : ByteArray)[1]'(by decide)).toNat : Int)) = true := by rw [hA.2]; rfl
    have h13 := hf2 hA.1
    obtain ⟨r, hr0⟩ : ∃ r, r = lineF st x := ⟨_, rfl⟩
    rw [← hr0] at hr ⊢
    have HR := Lib.hid hr; have HP := Lib.hid hp
    clear hr hr0 hA hf2 hp
    go_enter Tryd.func50, Tryd.ntmps50
    go_wp2_with (at_builtin; refine wpList_append_own _ rfl _ _ 39 rfl B 5 i0 (.int .u8 0) 1 1 Tryd.underlying39 HI.out hz0 hz1 hz2 rfl (by decide) v st.s.length (Lib.byteCells st.s) rfl (H.out.pre _) ⟨w.heap.size + 1, 0, none⟩ 1 1 [.int .u8 x.toNat] rfl rfl ?c1 ?c2 ?c3 ?c4 ?c5 ?_)
    case c1 => exact one_new _ _ _ (by simp) 5 _ rfl
    case c2 => intro u hu; simp at hu; subst hu; rfl
    case c3 => unfold maxLen; omega
    case c4 => omega
    case c5 => simp; omega
    intro v' w2 hown2 hgrow _
    have H2 := Lib.hid (H.out.more x _ hgrow hown2)
    obtain ⟨ao, m, c', rfl⟩ := own_slice hown2
    clear hgrow hown2 c0 c5 f5 H HI hz0 hz1 hz2
    have d0 : w2.cell? ⟨g, 0, none⟩ = some v := H2.out.blk.cell 0
    have d2 : w2.cell? ⟨g, 2, none⟩ = some (.int .i64 st.own) := H2.out.blk.cell 2
    have f0 := H2.out.blk.frozen 0
    have f2 := H2.out.blk.frozen 2
    have d5 : w2.cell? ⟨g, 5, none⟩ = some (.int .u8 x.toNat) := H2.out.blk.cell 5
    have f5 := H2.out.blk.frozen 5
    go_wp2_with fail
    have K := ((H2.out.set_ 0 (.slice ao m c')).set_ 2 (.int .i64 (st.own + 1))).set_ 5 (.int .u8 0)
    have hKE : Env n₀ (((w2.setCell ⟨g, 0, none⟩ (.slice ao m c')).setCell ⟨g, 2, none⟩ (.int .i64 (st.own + 1))).setCell ⟨g, 5, none⟩ (.int .u8 0)) := HE.out.on (K.fr.below hn (by have := K.lt; omega) HE.out.le)
    have hKF := K.fd (st := { st with s := st.s ++ [x], own := st.own + 1, last := 0 }) rfl (by simp)
    have hca := endF_any B g { st with s := st.s ++ [x], own := st.own + 1, last := 0 } _ _ hKF hKE (by simp; omega) hall (by simp; omega)
    rw [HP.out] at hca
    refine hca.mono ?_
    rintro e w3 ⟨rfl, ⟨v', hd3⟩, hf3⟩
    have H3 := Lib.hid (hd3.md_of (hf3.blk K.res (by omega) (.inr (by decide))) (K.fr.trans hf3) (by omega))
    clear hd3 hf3 K hKE hKF hca H2 d0 d2 d5 f0 f2 f5
    have r0 : w3.cell? ⟨w.heap.size, 0, none⟩ = some (.int .i64 0) := H3.out.res.cell 0
    have r1 : w3.cell? ⟨w.heap.size, 1, none⟩ = some (.string ⟨#[]⟩) := H3.out.res.cell 1
    have e0 := H3.out.res.frozen 0
    have e1 := H3.out.res.frozen 1
    go_wp2_with fail
    have K := (H3.out.res_ (Nat.le_refl _) 0 (.int .i64 p.1)).res_ (Nat.le_refl _) 1 (.string (bytesOf p.2))
    exact bodyPost_ret (v := .tuple #[.agg #[.int .i64 p.1, .string (bytesOf p.2)], .bool true]) (by simp [results, Tryd.results50, go_sem, r0, r1]) rfl (Said.of HR.out rfl (K.fd rfl rfl) K.fr)
  · have hX : (((st.last : Int) == (((⟨#[13, 10]⟩ : ByteArray)[0]'(by decide)).toNat : Int)) = true ∧ ((x.toNat : Int) == (((⟨#[13, 10]⟩ : ByteArray)[1]'(by decide)).toNat : Int)) = false) ∨ ((st.last : Int) == (((⟨#[13, 10]⟩ : ByteArray)[0]'(by decide)).toNat : Int)) = false := by
      by_cases h13 : st.last = 13
      · refine .inl ⟨by rw [h13]; rfl, ?_⟩
        simp only [beq_eq_false_iff_ne, ne_eq]
        intro e
        exact hA ⟨h13, UInt8.toNat_inj.1 (by have e' : (x.toNat : Int) = 10 := e; have : (10 : UInt8).toNat = 10 := rfl; omega)⟩
      · refine .inr ?_
        simp only [beq_eq_false_iff_ne, ne_eq]
        intro e
        exact h13 (by have e' : (st.last : Int) = 13 := e; omega)
    clear hf2
    by_cases h8 : 8192 < st.own + 1
    · have hr : lineF st x = ({ st with s := [], own := st.own + 1, last := x.toNat, mode := 2 }, some (3, st.s ++ [x])) := by unfold lineF; rw [if_neg hA, if_pos h8]
      rw [hr]
      have h8' : (8192 : Int) < (st.own : Int) + 1 := by omega
      clear hr hA h8
      rcases hX with ⟨hd, he⟩ | hd
      all_goals
        go_enter Tryd.func50, Tryd.ntmps50
        go_wp2_with (at_builtin; refine wpList_append_own _ rfl _ _ 39 rfl B 5 i0 (.int .u8 0) 1 1 Tryd.underlying39 HI.out hz0 hz1 hz2 rfl (by decide) v st.s.length (Lib.byteCells st.s) rfl (H.out.pre _) ⟨w.heap.size + 1, 0, none⟩ 1 1 [.int .u8 x.toNat] rfl rfl ?c1 ?c2 ?c3 ?c4 ?c5 ?_)
        case c1 => exact one_new _ _ _ (by simp) 5 _ rfl
        case c2 => intro u hu; simp at hu; subst hu; rfl
        case c3 => unfold maxLen; omega
        case c4 => omega
        case c5 => simp; omega
        intro v' w2 hown2 hgrow _
        have H2 := Lib.hid (H.out.more x _ hgrow hown2)
        obtain ⟨k, cap, hv', hc1, hc2⟩ := own_some (n := 0) H2.out.own (by simp)
        have hL : (st.s ++ [x]).length = st.s.length + 1 := by simp
        rw [hL] at hv' hc1
        subst hv'
        unfold maxLen at hc2
        clear hgrow hown2 c0 c5 f5 H HI hz0 hz1 hz2
        have d0 : w2.cell? ⟨g, 0, none⟩ = some v := H2.out.blk.cell 0
        have d2 : w2.cell? ⟨g, 2, none⟩ = some (.int .i64 st.own) := H2.out.blk.cell 2
        have f0 := H2.out.blk.frozen 0
        have f2 := H2.out.blk.frozen 2
        have d6 : w2.cell? ⟨g, 6, none⟩ = some (fnOf g st.mode) := H2.out.blk.cell 6
        have f6 := H2.out.blk.frozen 6
        have r0 : w2.cell? ⟨w.heap.size, 0, none⟩ = some (.int .i64 0) := H2.out.res.cell 0
        have r1 : w2.cell? ⟨w.heap.size, 1, none⟩ = some (.string ⟨#[]⟩) := H2.out.res.cell 1
        have e0 := H2.out.res.frozen 0
        have e1 := H2.out.res.frozen 1
        have hgr : g ≠ w.heap.size := by omega
        have hg2 : g < w2.heap.size := H2.out.blk.lt
        have hr2 : w.heap.size < w2.heap.size := H2.out.res.lt
        have q := own_convert ((H2.out.set_ 0 (.slice (some ⟨k, 0, none⟩) (st.s.length + 1) cap)).set_ 2 (.int .i64 (st.own + 1))).own 0 (st.s.length + 1) cap (by simp)
        rw [List.drop_zero, List.take_of_length_le (by simp)] at q
        go_wp2_with fail
        have K := (((((((H2.out.set_ 0 (.slice (some ⟨k, 0, none⟩) (st.s.length + 1) cap)).set_ 2 (.int .i64 (st.own + 1))).set_ 0 (.slice none 0 0)).set_ 6 (.func (.func 63) #[.pointer (some ⟨g, 0, none⟩)] #[])).forget).res_ (Nat.le_refl _) 0 (.int .i64 3)).res_ (Nat.le_refl _) 1 (.string (bytesOf (st.s ++ [x])))).alloc (.cells #[.int .i64 3, .string (bytesOf (st.s ++ [x]))] 70)
        exact bodyPost_ret (v := .tuple #[.agg #[.int .i64 3, .string (bytesOf (st.s ++ [x]))], .bool true]) (by simp [results, Tryd.results50, go_sem, r0, r1, hr2]) rfl ⟨rfl, ⟨_, K.fd (st := { st with s := [], own := st.own + 1, last := x.toNat, mode := 2 }) rfl (by simp [fnOf])⟩, K.fr⟩
    · have hr : lineF st x = ({ st with s := st.s ++ [x], own := st.own + 1, last := x.toNat }, none) := by unfold lineF; rw [if_neg hA, if_neg h8]
      rw [hr]
      have h8' : (st.own : Int) + 1 ≤ 8192 := by omega
      clear hr hA h8
      rcases hX with ⟨hd, he⟩ | hd
      all_goals
        go_enter Tryd.func50, Tryd.ntmps50
        go_wp2_with (at_builtin; refine wpList_append_own _ rfl _ _ 39 rfl B 5 i0 (.int .u8 0) 1 1 Tryd.underlying39 HI.out hz0 hz1 hz2 rfl (by decide) v st.s.length (Lib.byteCells st.s) rfl (H.out.pre _) ⟨w.heap.size + 1, 0, none⟩ 1 1 [.int .u8 x.toNat] rfl rfl ?c1 ?c2 ?c3 ?c4 ?c5 ?_)
        case c1 => exact one_new _ _ _ (by simp) 5 _ rfl
        case c2 => intro u hu; simp at hu; subst hu; rfl
        case c3 => unfold maxLen; omega
        case c4 => omega
        case c5 => simp; omega
        intro v' w2 hown2 hgrow _
        have H2 := Lib.hid (H.out.more x _ hgrow hown2)
        obtain ⟨ao, m, c', rfl⟩ := own_slice hown2
        clear hgrow hown2 c0 c5 f5 H HI hz0 hz1 hz2
        have d0 : w2.cell? ⟨g, 0, none⟩ = some v := H2.out.blk.cell 0
        have d2 : w2.cell? ⟨g, 2, none⟩ = some (.int .i64 st.own) := H2.out.blk.cell 2
        have f0 := H2.out.blk.frozen 0
        have f2 := H2.out.blk.frozen 2
        have r0 : w2.cell? ⟨w.heap.size, 0, none⟩ = some (.int .i64 0) := H2.out.res.cell 0
        have r1 : w2.cell? ⟨w.heap.size, 1, none⟩ = some (.string ⟨#[]⟩) := H2.out.res.cell 1
        have e0 := H2.out.res.frozen 0
        have e1 := H2.out.res.frozen 1
        have hgr : g ≠ w.heap.size := by omega
        go_wp2_with fail
        have K := (((H2.out.set_ 0 (.slice ao m c')).set_ 2 (.int .i64 (st.own + 1))).res_ (Nat.le_refl _) 0 (.int .i64 0)).res_ (Nat.le_refl _) 1 (.string ⟨#[]⟩)
        exact bodyPost_ret (v := .tuple #[.agg #[.int .i64 0, .string ⟨#[]⟩], .bool false]) (by simp [results, Tryd.results50, go_sem, r0, r1]) rfl ⟨rfl, ⟨_, K.fd (st := { st with s := st.s ++ [x], own := st.own + 1, last := x.toNat }) rfl (by simp)⟩, K.fr⟩

end Go.Proofs.YtmgifbibhodbbaaDoor

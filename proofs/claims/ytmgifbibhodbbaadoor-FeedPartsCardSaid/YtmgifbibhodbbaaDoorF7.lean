/- A line ends. -/
import Derived.Test.YtmgifbibhodbbaaDoorF6
import Derived.Deep.RegionHeld3
namespace Go.Proofs.YtmgifbibhodbbaaDoor
open Go.RowKit

theorem Md.below {B g r : Nat} {w w' w2 : World} {s : List UInt8} {v : Value} {cs rc : Array Value} (h : Md B g w w' s v cs r rc) (hb : Below w'.heap.size w' w2) : Md B g w w2 s v cs r rc :=
  ⟨h.blk.stay hb, h.own.kept (row := none) (grown_of_below hb none) (by
    cases hv : v.ownBlock with
    | none => left; rfl
    | some k => right; simp), h.res.stay hb, h.fr.then hb, h.lt, Nat.le_trans h.le hb.size, h.ne⟩
/-- behind a method that was called -/
theorem Fd.md_of {B g r : Nat} {w w' : World} {st : FS} {v : Value} {rc : Array Value} (h : Fd B g w' st v) (hr : Blk w' r 70 rc) (hf : Fr g B w w') (hne : g ≠ r) :
    Md B g w w' st.s v #[v, .int .i64 st.from_, .int .i64 st.own, .int .i64 st.all, .int .i64 st.left, .int .u8 st.last, fnOf g st.mode] r rc :=
  ⟨h.blk, h.own, hr, hf, h.lt, h.le, hne⟩
theorem headP_le (l : List UInt8) : (headP l).1 ≤ 4294967295 := by
  unfold headP
  split
  · exact Nat.zero_le _
  · exact pNumber_le _

set_option maxHeartbeats 1600000 in
set_option maxRecDepth 100000 in
theorem endF_any {n₀ : Nat} (B g : Nat) (st : FS) (v : Value) (w : World) (h : Fd B g w st v) (hE : Env n₀ w) (hlen : st.s.length ≤ 1000000) (hall : st.all ≤ 65536) (hf : st.from_ + 2 ≤ st.s.length) :
    Calls Tryd.prog 62 #[.pointer (some ⟨g, 0, none⟩)] w (Said B g w (endF st)) := by
  have hg : g < w.heap.size := h.blk.lt
  obtain ⟨k, cap, rfl, hc1, hc2⟩ := own_some (n := 0) h.own (by omega)
  unfold maxLen at hc2
  have c0 : w.cell? ⟨g, 0, none⟩ = some (.slice (some ⟨k, 0, none⟩) st.s.length cap) := h.blk.cell 0
  have c1 : w.cell? ⟨g, 1, none⟩ = some (.int .i64 st.from_) := h.blk.cell 1
  have HE := Lib.hid hE; clear hE
  have HD := Lib.hid h
  have H := Lib.hid h.md; clear h
  obtain ⟨w1, hw1⟩ : ∃ w1, w.alloc (.cells #[.int .i64 0, .string ⟨#[]⟩] 70) = w1 := ⟨_, rfl⟩
  have hE1 : Env n₀ w1.drew := hw1 ▸ (HE.out.below (below_alloc (Below.refl _ _) _)).below (below_drewN (Below.refl _ _) 1)
  replace H := Lib.hid (hw1 ▸ H.out)
  have q1 := own_convert (w := w1.drew) H.out.own st.from_ (st.s.length - 2 - st.from_) (cap - st.from_) (by omega)
  have q2 : ∀ w2, Below w1.drew.heap.size w1.drew w2 → _ := fun w2 hb => own_convert (w := w2) (World.ownsRow.kept (w := w1.drew) (row := none) H.out.own (grown_of_below hb none) (.inr (by simp [Value.ownBlock]))) st.from_ (st.s.length - 2 - st.from_) (cap - st.from_) (by omega)
  have hh := head_any ((st.s.drop st.from_).take (st.s.length - 2 - st.from_)) _ (by simp; omega) hE1
  obtain ⟨r, hr⟩ : ∃ r, r = endF st := ⟨_, rfl⟩
  have hend := hr
  rw [← hr]
  unfold endF at hend
  have hnle := headP_le ((st.s.drop st.from_).take (st.s.length - 2 - st.from_))
  generalize (st.s.drop st.from_).take (st.s.length - 2 - st.from_) = t at q1 q2 hh hend hnle
  generalize headP t = p at hh hend hnle
  obtain ⟨n, b⟩ := p
  have HEND := Lib.hid hend
  clear hend hr
  have HH := Lib.hid hh
  have HQ := Lib.hid q2
  clear q2
  clear hh hE1 c0 c1
  have c0 : w1.cell? ⟨g, 0, none⟩ = some (.slice (some ⟨k, 0, none⟩) st.s.length cap) := H.out.blk.cell 0
  have c1 : w1.cell? ⟨g, 1, none⟩ = some (.int .i64 st.from_) := H.out.blk.cell 1
  have hcf : cap ≠ st.from_ := by omega
  have i0 : IntKind.i64.wrap ((st.s.length : Int) - 2) = (st.s.length : Int) - 2 := (IntWalk.i64_left _).trans (IntWalk.wrap64_in _ (by omega))
  have i1 : (0 : Int) ≤ (st.from_ : Int) := by omega
  have i2 : (st.from_ : Int) ≤ (st.s.length : Int) - 2 := by omega
  have i3 : (st.s.length : Int) - 2 ≤ (cap : Int) := by omega
  have i4 : (0 : Int) ≤ (st.s.length : Int) - 2 := by omega
  have i5 : ((st.s.length : Int) - 2).toNat = st.s.length - 2 := by omega
  have hg1 : g < w1.drew.heap.size := H.out.blk.lt
  have HW1 := Lib.hid hw1
  go_enter Tryd.func62, Tryd.ntmps62
  go_wp2_with fail
  go_region_held3 (fun w' => w'.cell? ⟨g, 0, none⟩ = some (.slice (some ⟨k, 0, none⟩) st.s.length cap) ∧ w'.cell? ⟨g, 1, none⟩ = some (.int .i64 st.from_) ∧
      (convert 39 9 (.slice (some ⟨k, st.from_, none⟩) (st.s.length - 2 - st.from_) (cap - st.from_))).run Tryd.prog w' = .ok (.string (bytesOf t)) w')
    (first | go_keep | exact ⟨c0, c1, q1⟩ | exact ⟨(hb2.cell (p := ⟨g, 0, none⟩) hg1).trans c0, (hb2.cell (p := ⟨g, 1, none⟩) hg1).trans c1, HQ.out _ hb2⟩)
    (first | (go_at_call 79; refine HH.out.mono ?_; rintro e w2 ⟨rfl, hb2⟩))
  have H2 := Lib.hid (H.out.drew.below hb2)
  have hgr : g ≠ w.heap.size := by omega
  clear c0 c1 q1 hg1 HH HQ H hb2 HW1 hw1 HE HD
  have HH2 := Lib.hid (by assumption : w2.cell? ⟨g, 0, none⟩ = _ ∧ w2.cell? ⟨g, 1, none⟩ = _ ∧ _)
  cases b with
  | false =>
    have hr : r = (FS.new, some (0, st.s.take (st.s.length - 2))) := by rw [HEND.out]; simp
    subst hr
    go_wp2_with fail
    refine (told_any B g st _ 0 2 w2 (H2.out.fd rfl rfl) (by omega) (by omega) (by omega)).mono ?_
    rintro e w3 ⟨rfl, ⟨v', hd⟩, hf⟩
    have H3 := Lib.hid (hd.md_of (hf.blk H2.out.res hgr.symm (.inr (by decide))) (H2.out.fr.trans hf) hgr)
    clear hd hf
    have r0 : w3.cell? ⟨w.heap.size, 0, none⟩ = some (.int .i64 0) := H3.out.res.cell 0
    have r1 : w3.cell? ⟨w.heap.size, 1, none⟩ = some (.string ⟨#[]⟩) := H3.out.res.cell 1
    have e0 := H3.out.res.frozen 0
    have e1 := H3.out.res.frozen 1
    go_wp2_with fail
    have K := (H3.out.res_ (Nat.le_refl _) 0 (.int .i64 0)).res_ (Nat.le_refl _) 1 (.string (bytesOf (st.s.take (st.s.length - 2))))
    exact bodyPost_ret (v := .tuple #[.agg #[.int .i64 0, .string (bytesOf (st.s.take (st.s.length - 2)))], .bool true]) (by simp [results, Tryd.results62, go_sem, r0, r1]) rfl ⟨rfl, ⟨_, K.fd (st := FS.new) rfl rfl⟩, K.fr⟩
  | true =>
    have d3 : w2.cell? ⟨g, 3, none⟩ = some (.int .i64 st.all) := H2.out.blk.cell 3
    by_cases hbig : 65536 < st.all + n
    · have hr : r = (FS.new, some (2, st.s.take (st.s.length - 2))) := by rw [HEND.out, if_neg (by decide), if_pos hbig]
      subst hr
      clear HEND
      have hbig' : (65536 : Int) < (st.all : Int) + (n : Int) := by omega
      go_wp2_with fail
      refine (told_any B g st _ 2 2 w2 (H2.out.fd rfl rfl) (by omega) (by omega) (by omega)).mono ?_
      rintro e w3 ⟨rfl, ⟨v', hd⟩, hf⟩
      have H3 := Lib.hid (hd.md_of (hf.blk H2.out.res hgr.symm (.inr (by decide))) (H2.out.fr.trans hf) hgr)
      clear hd hf
      have r0 : w3.cell? ⟨w.heap.size, 0, none⟩ = some (.int .i64 0) := H3.out.res.cell 0
      have r1 : w3.cell? ⟨w.heap.size, 1, none⟩ = some (.string ⟨#[]⟩) := H3.out.res.cell 1
      have e0 := H3.out.res.frozen 0
      have e1 := H3.out.res.frozen 1
      go_wp2_with fail
      have K := (H3.out.res_ (Nat.le_refl _) 0 (.int .i64 2)).res_ (Nat.le_refl _) 1 (.string (bytesOf (st.s.take (st.s.length - 2))))
      exact bodyPost_ret (v := .tuple #[.agg #[.int .i64 2, .string (bytesOf (st.s.take (st.s.length - 2)))], .bool true]) (by simp [results, Tryd.results62, go_sem, r0, r1]) rfl ⟨rfl, ⟨_, K.fd (st := FS.new) rfl rfl⟩, K.fr⟩
    · have hbig' : (st.all : Int) + (n : Int) ≤ 65536 := by omega
      have d0 : w2.cell? ⟨g, 0, none⟩ = some (.slice (some ⟨k, 0, none⟩) st.s.length cap) := H2.out.blk.cell 0
      have d1 : w2.cell? ⟨g, 1, none⟩ = some (.int .i64 st.from_) := H2.out.blk.cell 1
      have d4 : w2.cell? ⟨g, 4, none⟩ = some (.int .i64 st.left) := H2.out.blk.cell 4
      have d6 : w2.cell? ⟨g, 6, none⟩ = some (fnOf g st.mode) := H2.out.blk.cell 6
      have f1 := H2.out.blk.frozen 1
      have f3 := H2.out.blk.frozen 3
      have f4 := H2.out.blk.frozen 4
      have f6 := H2.out.blk.frozen 6
      have r0 : w2.cell? ⟨w.heap.size, 0, none⟩ = some (.int .i64 0) := H2.out.res.cell 0
      have r1 : w2.cell? ⟨w.heap.size, 1, none⟩ = some (.string ⟨#[]⟩) := H2.out.res.cell 1
      have e0 := H2.out.res.frozen 0
      have e1 := H2.out.res.frozen 1
      by_cases h0 : 0 < n
      · have hr : r = ({ st with all := st.all + n, left := n, from_ := st.s.length + n, mode := 1 }, some (1, [])) := by rw [HEND.out, if_neg (by decide), if_neg hbig, if_pos h0]
        subst hr
        clear HEND
        have h0' : (0 : Int) < (n : Int) := by omega
        go_wp2_with fail
        have K := (((((H2.out.set_ 3 (.int .i64 (st.all + n))).set_ 4 (.int .i64 n)).set_ 1 (.int .i64 (st.s.length + n))).set_ 6 (.func (.func 81) #[.pointer (some ⟨g, 0, none⟩)] #[])).res_ (Nat.le_refl _) 0 (.int .i64 1)).res_ (Nat.le_refl _) 1 (.string ⟨#[]⟩)
        refine bodyPost_ret (v := .tuple #[.agg #[.int .i64 1, .string (bytesOf [])], .bool true]) (by simp [results, Tryd.results62, go_sem, r0, r1]; rfl) rfl ⟨rfl, ⟨_, K.fd (st := { st with all := st.all + n, left := n, from_ := st.s.length + n, mode := 1 }) rfl ?_⟩, K.fr⟩
        simp [fnOf]
      · have hr : r = ({ st with all := st.all + n, left := n, from_ := st.s.length + n }, some (1, [])) := by rw [HEND.out, if_neg (by decide), if_neg hbig, if_neg h0]
        subst hr
        clear HEND
        have h0' : (n : Int) ≤ 0 := by omega
        go_wp2_with fail
        have K := ((((H2.out.set_ 3 (.int .i64 (st.all + n))).set_ 4 (.int .i64 n)).set_ 1 (.int .i64 (st.s.length + n))).res_ (Nat.le_refl _) 0 (.int .i64 1)).res_ (Nat.le_refl _) 1 (.string ⟨#[]⟩)
        refine bodyPost_ret (v := .tuple #[.agg #[.int .i64 1, .string (bytesOf [])], .bool true]) (by simp [results, Tryd.results62, go_sem, r0, r1]; rfl) rfl ⟨rfl, ⟨_, K.fd (st := { st with all := st.all + n, left := n, from_ := st.s.length + n }) rfl ?_⟩, K.fr⟩
        simp

theorem endF_some (st : FS) : ∃ s p, endF st = (s, some p) := by
  unfold endF
  split
  · exact ⟨_, _, rfl⟩
  · split <;> exact ⟨_, _, rfl⟩

end Go.Proofs.YtmgifbibhodbbaaDoor

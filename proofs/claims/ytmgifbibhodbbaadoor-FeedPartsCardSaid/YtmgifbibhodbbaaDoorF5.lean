/- What is told. -/
import Derived.Test.YtmgifbibhodbbaaDoorF4
import Derived.BigRegion
namespace Go.Proofs.YtmgifbibhodbbaaDoor
open Go.RowKit

/-- a row that is not nil -/
theorem own_some {w : World} {D n : Nat} {v : Value} {l : List UInt8} (h : w.ownsRow D 5 1 v l.length (Lib.byteCells l)) (hn : n < l.length) : ∃ k cap, v = .slice (some ⟨k, 0, none⟩) l.length cap ∧ l.length ≤ cap ∧ cap ≤ maxLen := by
  rcases h.2 with ⟨_, h0⟩ | ⟨g, cap, cur, hv, _, _, h1, h2, _⟩
  · omega
  · exact ⟨g, cap, hv, h1, h2⟩

theorem Md.alloc {B g r : Nat} {w w' : World} {s : List UInt8} {v : Value} {cs rc : Array Value} (h : Md B g w w' s v cs r rc) (o : Obj) : Md B g w (w'.alloc o) s v cs r rc :=
  ⟨h.blk.alloc o, h.pre o, h.res.alloc o, h.fr.alloc o, h.lt, Nat.le_trans h.le (below_alloc (Below.refl w'.heap.size w') o).size, h.ne⟩
theorem Md.drew {B g r : Nat} {w w' : World} {s : List UInt8} {v : Value} {cs rc : Array Value} (h : Md B g w w' s v cs r rc) : Md B g w w'.drew s v cs r rc := h.drewN 1

set_option maxHeartbeats 800000 in
set_option maxRecDepth 100000 in
theorem told_any (B g : Nat) (st : FS) (v : Value) (kind less : Nat) (w : World) (h : Fd B g w st v) (hl : less ≤ st.s.length) (h1 : 0 < st.s.length) (hlen : st.s.length ≤ 2000000000) :
    Calls Tryd.prog 80 #[.pointer (some ⟨g, 0, none⟩), .int .i64 kind, .int .i64 less] w (Said B g w (FS.new, some (kind, st.s.take (st.s.length - less)))) := by
  have hg : g < w.heap.size := h.blk.lt
  obtain ⟨k, cap, rfl, hc1, hc2⟩ := own_some h.own h1
  unfold maxLen at hc2
  have c0 : w.cell? ⟨g, 0, none⟩ = some (.slice (some ⟨k, 0, none⟩) st.s.length cap) := h.blk.cell 0
  have H := Lib.hid h.md; clear h
  have q1 := own_convert (w := (w.alloc (.cells #[.int .i64 0, .string ⟨#[]⟩] 70)).drew) H.out.own 0 (st.s.length - less) cap (by omega)
  have q2 := own_convert (w := ((w.alloc (.cells #[.int .i64 0, .string ⟨#[]⟩] 70)).alloc (.cells #[.int .i64 0, .string ⟨#[]⟩] 70)).drew) (H.out.pre _) 0 (st.s.length - less) cap (by omega)
  rw [List.drop_zero] at q1 q2
  go_enter Tryd.func80, Tryd.ntmps80
  go_wp2_with fail
  go_region
  all_goals
    have HA := Lib.hid (H.out.alloc (.cells #[.int .i64 kind, .string (bytesOf (st.s.take (st.s.length - less)))] 70)).drew
    have HP : Hid (Blk ((w.alloc (.cells #[.int .i64 0, .string ⟨#[]⟩] 70)).alloc (.cells #[.int .i64 kind, .string (bytesOf (st.s.take (st.s.length - less)))] 70)).drew (w.heap.size + 1) 70 #[.int .i64 kind, .string (bytesOf (st.s.take (st.s.length - less)))]) := Lib.hid (by
      have := Blk.new (w.alloc (.cells #[.int .i64 0, .string ⟨#[]⟩] 70)) 70 #[.int .i64 kind, .string (bytesOf (st.s.take (st.s.length - less)))]
      simp only [World.size_alloc] at this
      exact this)
    clear q1 q2 c0
    go_wp2_with (go_at_call 82; refine (again_blk g _ _ _ _ _ _ _ _ HA.out.blk).mono ?_)
    rintro e w1 ⟨rfl, hb, hg1⟩
    have H1 := Lib.hid (HA.out.begun hb hg1)
    have HQ := Lib.hid (HP.out.grown hg1 (by intro e; injection e with e; omega))
    clear hb hg1 H HA HP
    have r0 : w1.cell? ⟨w.heap.size, 0, none⟩ = some (.int .i64 0) := H1.out.res.cell 0
    have r1 : w1.cell? ⟨w.heap.size, 1, none⟩ = some (.string ⟨#[]⟩) := H1.out.res.cell 1
    have e0 := H1.out.res.frozen 0
    have e1 := H1.out.res.frozen 1
    have p0 : w1.cell? ⟨w.heap.size + 1, 0, none⟩ = some (.int .i64 kind) := HQ.out.cell 0
    have p1 : w1.cell? ⟨w.heap.size + 1, 1, none⟩ = some (.string (bytesOf (st.s.take (st.s.length - less)))) := HQ.out.cell 1
    go_wp2_with fail
    have K := (H1.out.res_ (Nat.le_refl _) 0 (.int .i64 kind)).res_ (Nat.le_refl _) 1 (.string (bytesOf (st.s.take (st.s.length - less))))
    refine bodyPost_ret (v := .tuple #[.agg #[.int .i64 kind, .string (bytesOf (st.s.take (st.s.length - less)))], .bool true]) (by simp [results, Tryd.results80, go_sem, r0, r1]) rfl ⟨rfl, ⟨_, K.fd (st := FS.new) rfl rfl⟩, K.fr⟩

end Go.Proofs.YtmgifbibhodbbaaDoor

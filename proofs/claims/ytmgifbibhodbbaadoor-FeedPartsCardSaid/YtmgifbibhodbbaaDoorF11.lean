/- A new feed; how many bytes it keeps; pieces as the reference's, and whether they are alike. -/
import Derived.Test.YtmgifbibhodbbaaDoorF10
import Derived.Deep.RegionLaw
namespace Go.Proofs.YtmgifbibhodbbaaDoor
open Go.RowKit

set_option maxHeartbeats 800000 in
theorem new_any (w : World) :
    Calls Tryd.prog 22 #[] w fun e w' => e = .returned (.pointer (some ⟨w.heap.size, 0, none⟩)) ∧ Below w.heap.size w w' ∧ w'.heap.size = w.heap.size + 1 ∧ Blk w' w.heap.size 68 #[.slice none 0 0, .int .i64 0, .int .i64 0, .int .i64 0, .int .i64 0, .int .u8 0, fnOf w.heap.size 0] := by
  go_enter Tryd.func22, Tryd.ntmps22
  go_wp2_with fail
  go_ret
  exact ⟨rfl, below_alloc (Below.refl _ _) _, by simp, Blk.new w 68 _⟩

theorem kept_any (B g : Nat) (st : FS) (v : Value) (w : World) (h : Fd B g w st v) (_hl : st.s.length ≤ 1000000) :
    Calls Tryd.prog 26 #[.pointer (some ⟨g, 0, none⟩)] w fun e w' => e = .returned (.int .i64 st.s.length) ∧ w = w' := by
  obtain ⟨V, c, rfl⟩ := own_form h.own
  have c0 : w.cell? ⟨g, 0, none⟩ = some (.slice V st.s.length c) := h.blk.cell 0
  have H := Lib.hid h; clear h
  go_enter Tryd.func26, Tryd.ntmps26
  go_wp2_with fail
  go_ret
  exact ⟨rfl, rfl⟩

/-- pieces that lie in a row below block n -/
def PcsAt (w : World) (n : Nat) (A : Option Addr) (L : List (Nat × List UInt8)) : Prop :=
  L ≠ [] → ∃ b o, A = some ⟨b, o, none⟩ ∧ b < n ∧ ∀ k p, L[k]? = some p → w.cell? ⟨b, o + k * 2, none⟩ = some (.int .i64 p.1) ∧ w.cell? ⟨b, o + k * 2 + 1, none⟩ = some (.string (bytesOf p.2))

theorem elem72 : ElemT 47 72 2 24 := ElemT.of (by kernel_rfl) (by decide) (by kernel_rfl)
/-- what back answers -/
def BackPost (L : List (Nat × List UInt8)) (w : World) (e : Ending) (w' : World) : Prop :=
  ∃ V c, e = .returned (.slice V L.length c) ∧ w'.ownsRow w.heap.size 72 2 (.slice V L.length c) L.length (pcs L) ∧ Below w.heap.size w w'

set_option maxHeartbeats 1600000 in
set_option maxRecDepth 100000 in
theorem back_any (L : List (Nat × List UInt8)) (A : Option Addr) (cap : Nat) (w : World) (h : PcsAt w w.heap.size A L) (hL : L.length ≤ 900000) :
    Calls Tryd.prog 25 #[.slice A L.length cap] w (BackPost L w) := by
  have H := Lib.hid h; clear h
  obtain ⟨ht, _, i0, z0, hi, hz, hs, hy, hzs⟩ := elem72
  go_enter Tryd.func25, Tryd.ntmps25
  go_wp2_with fail
  go_loopw [3, 4] (fun out i X => ∃ k : Nat, k ≤ L.length ∧ i = .int .i64 k ∧ ∃ V c, out = .slice V k c ∧ X.ownsRow w.heap.size 72 2 (.slice V k c) k (pcs (L.take k)) ∧ Below w.heap.size w X) (fun _ i _ => L.length - (intOf i).toNat)
  case atStart => exact ⟨0, Nat.zero_le _, rfl, none, 0, rfl, ⟨rfl, .inl ⟨rfl, rfl⟩⟩, Below.refl _ _⟩
  case round =>
    obtain ⟨k, hk, rfl, V, c, rfl, hown, hb⟩ := hrel
    by_cases hlt : k < L.length
    · obtain ⟨p, hp⟩ : ∃ p, L[k]? = some p := ⟨_, List.getElem?_eq_getElem hlt⟩
      obtain ⟨bb, bo, rfl, hbB, hcells⟩ := H.out (fun e => by rw [e] at hlt; simp at hlt)
      obtain ⟨c0, c1⟩ := hcells k p hp
      have d0 : World.cell? _ ⟨bb, bo + k * 2, none⟩ = _ := (hb.cell (p := ⟨bb, bo + k * 2, none⟩) hbB).trans c0
      have d1 : World.cell? _ ⟨bb, bo + k * 2 + 1, none⟩ = _ := (hb.cell (p := ⟨bb, bo + k * 2 + 1, none⟩) hbB).trans c1
      have hk1 : (0 : Int) ≤ (k : Int) := Int.natCast_nonneg _
      have hk2 : (k : Int) < (L.length : Int) := by omega
      have hnews : ∀ j u, [Value.int .i64 p.1, .string (bytesOf p.2)][j]? = some u → ((wr.alloc (.cells #[.int .i64 p.1, .string (bytesOf p.2)] 72)).drew).cell? ((⟨wr.heap.size, 0, none⟩ : Addr).add j) = some u :=
        World.news_of_block (w := (wr.alloc (.cells #[.int .i64 p.1, .string (bytesOf p.2)] 72)).drew) (cs := #[.int .i64 p.1, .string (bytesOf p.2)]) (heap_alloc_new wr _)
      have hone : ∀ u ∈ [Value.int .i64 p.1, .string (bytesOf p.2)], u.oneCell' = true := by simp [Value.oneCell']
      have h63 : k + 1 ≤ maxLen := by unfold maxLen; omega
      have hby : (k + 1) * 24 ≤ 140737488355328 := by omega
      have hbase : w.heap.size ≤ ((wr.alloc (.cells #[.int .i64 p.1, .string (bytesOf p.2)] 72)).drew).heap.size := Nat.le_trans hb.size (below_alloc (Below.refl wr.heap.size wr) (.cells #[.int .i64 p.1, .string (bytesOf p.2)] 72)).size
      have hownA : ((wr.alloc (.cells #[.int .i64 p.1, .string (bytesOf p.2)] 72)).drew).ownsRow w.heap.size 72 2 (.slice V k c) k (pcs (L.take k)) := hown.alloc _
      have HN := Lib.hid hnews; have HON := Lib.hid hone; have H63 := Lib.hid h63; have HBY := Lib.hid hby; have HBA := Lib.hid hbase; have HOA := Lib.hid hownA; have HB := Lib.hid hb; have HI := Lib.hid hi; have HP := Lib.hid hp
      clear hnews hone h63 hby hbase hownA hown hb hi hcells c0 c1 hp
      go_wp2_with fail
      go_region_law (refine step_append_lies _ rfl (.tmp 11) (.tmp 23) 47 rfl w.heap.size 72 i0 z0 2 24 ht HI.out hz hs hy hzs (by decide) (.slice V k c) k _ rfl HOA.out ⟨wr.heap.size, 0, none⟩ 1 1 _ rfl rfl HN.out HON.out (by decide) H63.out HBY.out HBA.out _ rfl ?_; intro g2 c2 w2 hown2 hgrow2 hx2 hg2)
      all_goals
        have HB2 := Lib.hid ((HB.out.alloc HB.out.size (.cells #[.int .i64 p.1, .string (bytesOf p.2)] 72)).drew.grown hgrow2 HBA.out (fun k e => (HOA.out.lt k e).1))
        have HO2 := Lib.hid hown2
        clear hown2 hgrow2 hx2 hg2 HOA HB HN HON HBA d0 d1
        go_wp2_with fail
        go_roundw
        case rel =>
          refine ⟨k + 1, by omega, by go_num, ?_⟩
          have hp : pcs (L.take (k + 1)) = pcs (L.take k) ++ [.int .i64 p.1, .string (bytesOf p.2)] := by rw [List.take_add_one, HP.out, pcs_append]; rfl
          rw [hp]
          exact ⟨_, _, rfl, HO2.out, HB2.out⟩
        case measure => simp [intOf]; omega
    · have hkl : k = L.length := by omega
      subst hkl
      rw [List.take_length] at hown
      clear hlt
      go_wp2_with fail
      go_ret
      exact ⟨V, c, rfl, hown, hb⟩


end Go.Proofs.YtmgifbibhodbbaaDoor

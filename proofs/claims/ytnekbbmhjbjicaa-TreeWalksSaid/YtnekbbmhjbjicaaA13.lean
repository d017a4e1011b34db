/- The statements' awake (layer 7). -/
import Derived.Test.YtnekbbmhjbjicaaA12
namespace Go.Proofs.Ytnekbbmhjbjicaa
open Go.RowKit

/-- the chapter's example -/
def exL : List Rc := [⟨1, 0, ⟨#[]⟩⟩, ⟨17, 0, ⟨#[]⟩⟩, ⟨300, 0, ⟨#[120]⟩⟩]
theorem exL_sorted : Sorted exL := by unfold Sorted exL; decide
theorem exL_ok : ∀ r ∈ exL, r.uid < 4294967296 := by unfold exL; decide
theorem exL_height : standH exL 0 = 3 := by
  unfold standH height exL
  simp only [List.getLast?_cons_cons, List.getLast?_singleton]
  rw [need_ge (by omega), need_ge (by omega), need_lt (by omega)]; rfl
theorem exL_rank : rankR exL 18 = 2 := by decide

set_option maxRecDepth 100000 in
set_option maxHeartbeats 1000000 in
theorem awake_any (w : World) : Calls Try.prog 21 #[] w fun e w' => e = .returned (.bool true) ∧ Below w.heap.size w w' := by
  have hstand : ∀ W : World, RecsAt W W.heap.size (some ⟨w.heap.size, 0, none⟩) exL → Calls Try.prog 11 #[.slice (some ⟨w.heap.size, 0, none⟩) 3 3, .int .i64 2, .int .i64 0] W (StandOK exL 2 0 W) := fun W hW =>
    standOK _ 3 2 0 exL W exL_sorted exL_ok hW (by decide) (by omega) (by omega)
  have HST := Lib.hid hstand; clear hstand
  go_enter Try.func21, Try.ntmps21
  go_wp2_with fail
  have hrec : RecsAt (w.alloc (.cells #[.int .u32 1, .int .u8 0, .string ⟨#[]⟩, .int .u32 17, .int .u8 0, .string ⟨#[]⟩, .int .u32 300, .int .u8 0, .string ⟨#[120]⟩] 37))
      (w.alloc (.cells #[.int .u32 1, .int .u8 0, .string ⟨#[]⟩, .int .u32 17, .int .u8 0, .string ⟨#[]⟩, .int .u32 300, .int .u8 0, .string ⟨#[120]⟩] 37)).heap.size (some ⟨w.heap.size, 0, none⟩) exL := by
    intro _
    refine ⟨w.heap.size, 0, rfl, by simp, fun k r hk => ?_⟩
    have hB := Blk.new w 37 #[.int .u32 1, .int .u8 0, .string ⟨#[]⟩, .int .u32 17, .int .u8 0, .string ⟨#[]⟩, .int .u32 300, .int .u8 0, .string ⟨#[120]⟩]
    rw [hB.cell, hB.cell, hB.cell]
    match k, hk with
    | 0, hk => obtain rfl := Option.some.inj hk; exact ⟨rfl, rfl, rfl⟩
    | 1, hk => obtain rfl := Option.some.inj hk; exact ⟨rfl, rfl, rfl⟩
    | 2, hk => obtain rfl := Option.some.inj hk; exact ⟨rfl, rfl, rfl⟩
    | k + 3, hk => simp [exL] at hk
  refine (HST.out _ hrec).mono ?_
  rintro e w1 ⟨V, c, sh, root, h, rfl, hsh, ht, hb1, hne, _⟩
  obtain ⟨rfl, rfl, rfl⟩ := hne (by simp [exL])
  rw [exL_height] at ht
  rw [exL_height]
  have hst := shelf_store V c w1.heap.size (standS exL 2 0)
  obtain ⟨SH, hSH⟩ : ∃ SH, SH = standS exL 2 0 := ⟨_, rfl⟩
  rw [← hSH] at hsh ht hst
  rw [← hSH]
  have hb1' := below_on (below_alloc (Below.refl w.heap.size w) _) hb1
  have HT := Lib.hid ht; have HS := Lib.hid hst; have HSH := Lib.hid hsh; have HB1 := Lib.hid hb1'
  clear ht hst hsh hSH hrec hne HST hb1 hb1'
  have hr3 : (rankR exL 18 : Int) = 2 := by rw [exL_rank]; rfl
  have HR3 := Lib.hid hr3; clear hr3
  have e3 : ((3 : Nat) : Int) = 3 := rfl
  have hsel : ∀ W : World, (w1.heap.size ≤ W.heap.size ∧ ShelfAt W w1.heap.size V SH) → Calls Try.prog 20 #[.agg #[.int .i64 2, .int .i64 3], .iface 26 (.slice V SH.length c), .int .i64 2] W fun e w' =>
      e = .returned (.tuple #[.agg #[.int .u32 300, .int .u8 0, .string ⟨#[120]⟩], .bool true]) ∧ Below W.heap.size W w' := fun W hW => tSelect HS.out HT.out 2 ⟨300, 0, ⟨#[120]⟩⟩ rfl W hW
  have hrank : ∀ W : World, (w1.heap.size ≤ W.heap.size ∧ ShelfAt W w1.heap.size V SH) → Calls Try.prog 15 #[.agg #[.int .i64 2, .int .i64 3], .iface 26 (.slice V SH.length c), .int .u32 18] W fun e w' =>
      e = .returned (.int .i64 2) ∧ Below W.heap.size W w' := fun W hW => by
    have := tRank HS.out HT.out 18 (by omega) W hW
    rw [HR3.out] at this
    exact this
  have hlen : ∀ W : World, (w1.heap.size ≤ W.heap.size ∧ ShelfAt W w1.heap.size V SH) → Calls Try.prog 17 #[.agg #[.int .i64 2, .int .i64 3], .iface 26 (.slice V SH.length c)] W fun e w' =>
      e = .returned (.int .i64 3) ∧ Below W.heap.size W w' := fun W hW => tLen HS.out HT.out W hW
  have HSEL := Lib.hid hsel; have HRANK := Lib.hid hrank; have HLEN := Lib.hid hlen
  have hin : ∀ W : World, Below w1.heap.size w1 W → (w1.heap.size ≤ W.heap.size ∧ ShelfAt W w1.heap.size V SH) := fun W hb => ⟨hb.size, HSH.out.below hb⟩
  have HIN := Lib.hid hin
  clear hsel hrank hlen hin
  rw [e3]
  clear e3
  go_wp2_with (first
    | (go_at_call 20; refine (HSEL.out _ (HIN.out _ (below_alloc (Below.refl w1.heap.size w1) _))).mono ?_; rintro e w2 ⟨rfl, hb2⟩; have hc2 := bcell hb2; obtain ⟨hc, hf⟩ := hc2; have hz2 : w1.heap.size < w2.heap.size := by have := hb2.size; simp at this; omega)
    | (go_at_call 15; refine (HRANK.out _ (HIN.out _ (below_alloc (below_on (below_alloc (Below.refl w1.heap.size w1) _) hb2) _))).mono ?_; rintro e w3 ⟨rfl, hb3⟩; have hc3 := bcell hb3; obtain ⟨hcc, hff⟩ := hc3; have hz3 : w2.heap.size < w3.heap.size := by have := hb3.size; simp at this; omega)
    | (go_at_call 17; refine (HLEN.out _ (HIN.out _ (below_on (below_alloc (below_on (below_alloc (Below.refl w1.heap.size w1) _) hb2) _) hb3))).mono ?_; rintro e w4 ⟨rfl, hb4⟩))
  go_ret
  exact ⟨rfl, below_on (below_on (below_alloc (below_on (below_alloc HB1.out _) hb2) _) hb3) hb4⟩

end Go.Proofs.Ytnekbbmhjbjicaa

/- What the chapter's examples say of a feed. -/
import Derived.Test.YtmgifbibhodbbaaDoorF12
import Derived.Lib.SlBytesConst
namespace Go.Proofs.YtmgifbibhodbbaaDoor
open Go.RowKit

theorem pcs_get : ∀ (L : List (Nat × List UInt8)) (k : Nat) (p : Nat × List UInt8), L[k]? = some p → (pcs L)[k * 2]? = some (.int .i64 p.1) ∧ (pcs L)[k * 2 + 1]? = some (.string (bytesOf p.2))
  | [], _, _, h => by simp at h
  | x :: r, 0, p, h => by
    have : x = p := by simpa using h
    subst this
    exact ⟨rfl, rfl⟩
  | x :: r, k + 1, p, h => by
    have ih := pcs_get r k p (by simpa using h)
    have e : pcs (x :: r) = .int .i64 x.1 :: .string (bytesOf x.2) :: pcs r := rfl
    rw [e, show (k + 1) * 2 = k * 2 + 1 + 1 by omega, show k * 2 + 1 + 1 + 1 = (k * 2 + 1) + 1 + 1 by omega]
    simpa using ih
/-- a row of pieces of one's own -/
theorem PcsAt.of_own {w : World} {D t n c : Nat} {V : Option Addr} {L : List (Nat × List UInt8)} (h : w.ownsRow D t 2 (.slice V n c) n (pcs L)) : PcsAt w w.heap.size V L := fun hne => by
  have hlen := pcs_length L
  have h1 := h.1
  have hpos : 0 < L.length := by
    cases L with
    | nil => exact absurd rfl hne
    | cons _ _ => simp
  rcases h.2 with ⟨hv, h0⟩ | ⟨k, cap, cur, hv, _, hcur, _, _, _, htk⟩
  · omega
  · injection hv with hv _ _
    refine ⟨k, 0, hv, (Array.getElem?_eq_some_iff.1 hcur).1, fun i p hi => ?_⟩
    have hg : ∀ (j : Nat) (u : Value), (pcs L)[j]? = some u → w.cell? ⟨k, j, none⟩ = some u := fun j u hj => by
      rw [cell_of_row w k j cur t (0, 0) hcur]
      rw [← htk, List.getElem?_take] at hj
      split at hj
      · simpa using hj
      · cases hj
    obtain ⟨g0, g1⟩ := pcs_get L i p hi
    rw [Nat.zero_add]
    exact ⟨hg _ _ g0, hg _ _ g1⟩

def exB : List UInt8 := [97, 32, 110, 111, 111, 112, 13, 10, 97, 32, 97, 112, 112, 101, 110, 100, 32, 120, 32, 123, 50, 125, 13, 10, 104, 105, 13, 10]
def exT : List (Nat × List UInt8) := [(0, [97, 32, 110, 111, 111, 112]), (1, []), (0, [97, 32, 97, 112, 112, 101, 110, 100, 32, 120, 32, 123, 50, 125, 13, 10, 104, 105])]
theorem exTake : (takeF FS.new exB).2 = exT := by decide +kernel

set_option maxRecDepth 100000 in
set_option maxHeartbeats 1600000 in
theorem awakeF_any {n₀ : Nat} (w : World) (hE : Env n₀ w) :
    Calls Tryd.prog 27 #[] w fun e w' => e = .returned (.bool true) ∧ Below w.heap.size w w' := by
  have HE := Lib.hid hE; clear hE
  go_enter Tryd.func27, Tryd.ntmps27
  go_wp2_with (go_at_call 22; refine (new_any w).mono ?_)
  rintro e w1 ⟨rfl, hb1, hs1, hk1⟩
  have hcv := Lib.run_convert_bytes_const (P := Tryd.prog) w1 39 5 #[.int .u8 97, .int .u8 32, .int .u8 110, .int .u8 111, .int .u8 111, .int .u8 112, .int .u8 13, .int .u8 10, .int .u8 97, .int .u8 32, .int .u8 97, .int .u8 112, .int .u8 112, .int .u8 101, .int .u8 110, .int .u8 100, .int .u8 32, .int .u8 120, .int .u8 32, .int .u8 123, .int .u8 50, .int .u8 125, .int .u8 13, .int .u8 10, .int .u8 104, .int .u8 105, .int .u8 13, .int .u8 10] 28 28 Tryd.underlying39 Tryd.underlying5
  have hfd : Fd (w1.heap.size + 1) w.heap.size (w1.alloc (.cells #[.int .u8 97, .int .u8 32, .int .u8 110, .int .u8 111, .int .u8 111, .int .u8 112, .int .u8 13, .int .u8 10, .int .u8 97, .int .u8 32, .int .u8 97, .int .u8 112, .int .u8 112, .int .u8 101, .int .u8 110, .int .u8 100, .int .u8 32, .int .u8 120, .int .u8 32, .int .u8 123, .int .u8 50, .int .u8 125, .int .u8 13, .int .u8 10, .int .u8 104, .int .u8 105, .int .u8 13, .int .u8 10] 5 (28, 29))) FS.new (.slice none 0 0) := ⟨hk1.alloc _, ⟨rfl, .inl ⟨rfl, rfl⟩⟩, by omega, (by simp)⟩
  have hby : BytesAt (w1.alloc (.cells #[.int .u8 97, .int .u8 32, .int .u8 110, .int .u8 111, .int .u8 111, .int .u8 112, .int .u8 13, .int .u8 10, .int .u8 97, .int .u8 32, .int .u8 97, .int .u8 112, .int .u8 112, .int .u8 101, .int .u8 110, .int .u8 100, .int .u8 32, .int .u8 120, .int .u8 32, .int .u8 123, .int .u8 50, .int .u8 125, .int .u8 13, .int .u8 10, .int .u8 104, .int .u8 105, .int .u8 13, .int .u8 10] 5 (28, 29))) (w1.heap.size + 1) w.heap.size (some ⟨w1.heap.size, 0, none⟩) exB := fun _ => ⟨w1.heap.size, 0, rfl, by omega, by omega, fun k c hk => by
    rw [Nat.zero_add, World.cell?_alloc_mark]
    have e : #[.int .u8 97, .int .u8 32, .int .u8 110, .int .u8 111, .int .u8 111, .int .u8 112, .int .u8 13, .int .u8 10, .int .u8 97, .int .u8 32, .int .u8 97, .int .u8 112, .int .u8 112, .int .u8 101, .int .u8 110, .int .u8 100, .int .u8 32, .int .u8 120, .int .u8 32, .int .u8 123, .int .u8 50, .int .u8 125, .int .u8 13, .int .u8 10, .int .u8 104, .int .u8 105, .int .u8 13, .int .u8 10] = (exB.map (fun b => Value.int .u8 b.toNat)).toArray := rfl
    rw [e]
    simp [hk]⟩
  have hb2 : Below w.heap.size w (w1.alloc (.cells #[.int .u8 97, .int .u8 32, .int .u8 110, .int .u8 111, .int .u8 111, .int .u8 112, .int .u8 13, .int .u8 10, .int .u8 97, .int .u8 32, .int .u8 97, .int .u8 112, .int .u8 112, .int .u8 101, .int .u8 110, .int .u8 100, .int .u8 32, .int .u8 120, .int .u8 32, .int .u8 123, .int .u8 50, .int .u8 125, .int .u8 13, .int .u8 10, .int .u8 104, .int .u8 105, .int .u8 13, .int .u8 10] 5 (28, 29))) := hb1.alloc (by omega) _
  have htk := take_bytes (n₀ := n₀) (w1.heap.size + 1) w.heap.size 0 FS.new _ exB (some ⟨w1.heap.size, 0, none⟩) 28 _ hfd (HE.out.below hb2) HE.out.le (FS.ok_new 0) (by decide) hby
  have hle : w1.heap.size + 1 ≤ (w1.alloc (.cells #[.int .u8 97, .int .u8 32, .int .u8 110, .int .u8 111, .int .u8 111, .int .u8 112, .int .u8 13, .int .u8 10, .int .u8 97, .int .u8 32, .int .u8 97, .int .u8 112, .int .u8 112, .int .u8 101, .int .u8 110, .int .u8 100, .int .u8 32, .int .u8 120, .int .u8 32, .int .u8 123, .int .u8 50, .int .u8 125, .int .u8 13, .int .u8 10, .int .u8 104, .int .u8 105, .int .u8 13, .int .u8 10] 5 (28, 29))).heap.size := by simp
  have HT := Lib.hid htk; have HB2 := Lib.hid hb2; have HLE := Lib.hid hle; have HS1 := Lib.hid hs1
  clear htk hb2 hby hfd hb1 hs1 hk1 hle
  go_wp2_with fail
  clear hcv
  refine HT.out.mono ?_
  rintro e w2 ⟨V, c, rfl, hown, _, hf⟩
  have hbel : Below w.heap.size w w2 := HB2.out.trans (hf.below (Nat.le_refl _) (by have := HS1.out; omega) HB2.out.size)
  have hx : (takeF FS.new exB).2 = exT := exTake
  generalize (takeF FS.new exB).2 = L at hown hx
  subst hx
  obtain ⟨k, o, hV, _, hcells⟩ := PcsAt.of_own hown (by decide)
  obtain ⟨c00, c01⟩ := hcells 0 _ rfl
  obtain ⟨c10, c11⟩ := hcells 1 _ rfl
  obtain ⟨c20, c21⟩ := hcells 2 _ rfl
  subst hV
  have hlen : exT.length = 3 := rfl
  rw [hlen]
  have HBEL := Lib.hid hbel
  clear hown hf hcells hbel HT HB2 HLE HE HS1
  simp only [Nat.zero_mul, Nat.one_mul, Nat.add_zero] at c00 c01 c10 c11 c20 c21
  go_wp2_with fail
  go_ret
  exact ⟨rfl, HBEL.out⟩

end Go.Proofs.YtmgifbibhodbbaaDoor

/- The contract of Tree.Rank, over whatever store whose counts are small. -/
import Derived.Test.YtnekbbmhjbjicaaA2
namespace Go.Proofs.Ytnekbbmhjbjicaa
open Go.RowKit

/-- counts are small -/
def Small (st : St) : Prop := ∀ s n, st s = some n → 0 ≤ n.count ∧ n.count ≤ 2147483648

theorem Small.bel {st : St} (h : Small st) (s : Int) : 0 ≤ bel st s ∧ bel st s ≤ 2147483648 := by
  unfold Ytnekbbmhjbjicaa.bel
  cases hs : st s with
  | none => simp
  | some n =>
    have := h s n hs
    by_cases hk : n.kind = 2 <;> simp [hk] <;> omega

theorem Small.sum {st : St} (h : Small st) (kids : Nat → Int) : ∀ d : Nat, 0 ≤ belSum st kids d ∧ belSum st kids d ≤ d * 2147483648
  | 0 => by simp [belSum]
  | d + 1 => by
    have := h.sum kids d
    have := h.bel (kids d)
    simp only [belSum]
    omega

/-- n.Kids[:d] -/
theorem run_kids (w : World) (a : Addr) (d : Nat) (h : d < 16) : (Instr.sliceAt 55 (.pointer (some a)) none (some (.int .i64 d)) none).run Try.prog w = .ok (.slice (some a) d 16) w := by
  have h16 : Try.prog.arrayLen 55 = 16 := by kernel_rfl
  have hsz : (sizeOf (Try.prog.elem 55)).run Try.prog w = .ok 1 w := by kernel_rfl
  rw [run_sliceAt_array_h (P := Try.prog) w 55 a (by kernel_rfl) .i64 d (by omega) (by rw [h16]; omega), hsz, h16]
  simp [slicedAt, Addr.add]

set_option maxRecDepth 100000 in
theorem rank_yes {sv : Value} {st : St} {B : Nat} {Inv : World → Prop} (hs : IsStore sv st B Inv) (hsm : Small st) (root : Int) (h u : Nat) (hu : u < 4294967296) (hn : need u ≤ h) (h8 : h ≤ 8) (w : World) (hi : Inv w) :
    Calls Try.prog 15 #[.agg #[.int .i64 root, .int .i64 h], sv, .int .u32 u] w fun e w' => e = .returned (.int .i64 (rankL st u h root)) ∧ Below w.heap.size w w' := by
  have hd : decide (need u ≤ h) = true := by simpa using hn
  have H := Lib.hid hn; clear hn
  go_enter Try.func15, Try.ntmps15
  go_wp2_with (first
    | (go_at_call 41; refine (has_any u h root hu _).mono ?_; rw [hd]; rintro e w1 ⟨rfl, hb1⟩; have hc1 := bcell hb1; obtain ⟨hc, hf⟩ := hc1))
  have hb := below_on (below_alloc (Below.refl w.heap.size w) _) hb1
  have hi1 : Inv w1 := hs.keep _ _ hi hb
  clear hc hf hb1
  go_loopw [7, 8, 9] (fun s x i wr => ∃ (S sl : Int) (r : Nat), r ≤ h ∧ s = .int .i64 S ∧ x = .int .i64 sl ∧ i = .int .i64 ((r : Int) - 1) ∧ S + rankL st u r sl = rankL st u h root ∧ 0 ≤ S ∧ S ≤ (8 - r) * 34359738368 ∧ Inv wr ∧ Below w.heap.size w wr)
    (fun _ _ i _ => (intOf i + 1).toNat)
  case atStart => exact ⟨0, root, h, Nat.le_refl _, rfl, rfl, rfl, by simp, by omega, by omega, hi1, hb⟩
  case round =>
    obtain ⟨S, sl, r, hr, rfl, rfl, rfl, he, hS0, hS1, hI, hB⟩ := hrel
    have He := Lib.hid he; clear he
    rcases r with _ | r
    · have He2 : S = rankL st u h root := by have := He.out; simpa [rankL] using this
      have HE := Lib.hid He2; clear He2
      go_wp2_with fail
      go_ret
      exact ⟨ret_int HE.out, hB⟩
    · cases hst : st sl with
      | none =>
        have he : S = rankL st u h root := by have := He.out; simpa [rankL, hst] using this
        have HE := Lib.hid he; clear he
        go_wp2_with (first
          | (refine wpList_at rfl (.tmp 32) (.tmp 33) _ rfl hs sl rfl rfl hI ?_; rw [hst]; intro w2 hb2)
          | (refine wpList_store_new (n := Nd.zero) rfl (.tmp 10) (.tmp 35) rfl _ rfl rfl rfl ?_))
        go_ret
        exact ⟨ret_int HE.out, below_alloc (below_on hB hb2) _⟩
      | some n =>
        have he : S + (belSum st n.kids (dig u r) + rankL st u r (n.kids (dig u r))) = rankL st u h root := by rw [← He.out]; simp [rankL, hst]
        have HE := Lib.hid he; clear he
        have hd := dig_lt u r
        obtain ⟨wo, rfl⟩ : ∃ wo : World, wo = wr := ⟨_, rfl⟩
        have hkids := fun W : World => fun a : Addr => run_kids W a (dig u r) hd
        go_wp2_with (first
          | (refine wpList_at rfl (.tmp 32) (.tmp 33) _ rfl hs sl rfl rfl hI ?_; rw [hst]; intro w2 hb2)
          | (refine wpList_store_new (n := n) rfl (.tmp 10) (.tmp 35) rfl _ rfl rfl rfl ?_)
          | (go_at_call 42; refine (digit_any u r hu (by omega) _).mono ?_; rintro e w' ⟨rfl, rfl⟩))
        clear hkids
        have hB2 := below_alloc (below_on hB hb2) (.cells n.cells 60)
        have hI2 := hs.keep _ _ (hs.keep _ _ hI hb2) ((Below.refl _ _).alloc (Nat.le_refl _) (.cells n.cells 60))
        have hblk := Blk.new w2 60 n.cells
        go_loopw [7, 14, 46] (fun s x i wq => ∃ k : Nat, k ≤ dig u r ∧ s = .int .i64 (S + belSum st n.kids k) ∧ i = .int .i64 k ∧ Inv wq ∧ Below w.heap.size w wq ∧ Blk wq w2.heap.size 60 n.cells)
          (fun _ _ i _ => (dig u r - intOf i).toNat)
        case atStart => exact ⟨0, by omega, by simp [belSum], rfl, hI2, hB2, hblk⟩
        case round =>
          obtain ⟨k, hk, rfl, rfl, hIq, hBq, hbq⟩ := hrel
          have HQ := Lib.hid hbq; clear hbq
          clear hI hB hI2 hB2 hblk hb2
          by_cases hlt : k < dig u r
          · have hkid : wr.cell? ⟨w2.heap.size, 2 + k, none⟩ = some (.int .i64 (n.kids k)) := by rw [HQ.out.cell]; exact n.cells_kid k (by omega)
            have h1 := hsm.sum n.kids k
            have h2 := hsm.bel (n.kids k)
            go_wp2_with (first
              | (go_at_call 43; refine (below_any hs (n.kids k) _ hIq).mono ?_; rintro e w3 ⟨rfl, hb3⟩))
            go_roundw
            case rel => exact ⟨k + 1, by omega, by rw [show belSum st n.kids (k + 1) = belSum st n.kids k + bel st (n.kids k) from rfl]; go_num, by go_num, hs.keep _ _ hIq hb3, below_on hBq hb3, HQ.out.stay hb3⟩
            case measure => simp [intOf]; omega
          · obtain rfl : k = dig u r := by omega
            have hkid : wr.cell? ⟨w2.heap.size, 2 + dig u r, none⟩ = some (.int .i64 (n.kids (dig u r))) := by rw [HQ.out.cell]; exact n.cells_kid _ hd
            have h1 := hsm.sum n.kids (dig u r)
            go_wp2_with fail
            go_roundw
            case rel => exact ⟨S + belSum st n.kids (dig u r), n.kids (dig u r), r, by omega, rfl, rfl, rfl, by rw [← HE.out]; omega, by omega, by omega, hIq, hBq⟩
            case measure => simp [intOf]

set_option maxRecDepth 100000 in
theorem rank_no {sv : Value} {st : St} {B : Nat} {Inv : World → Prop} (hs : IsStore sv st B Inv) (root : Int) (h u : Nat) (hu : u < 4294967296) (hn : ¬ need u ≤ h) (w : World) (hi : Inv w) :
    Calls Try.prog 15 #[.agg #[.int .i64 root, .int .i64 h], sv, .int .u32 u] w fun e w' => e = .returned (.int .i64 (Nd.of (st root)).count) ∧ Below w.heap.size w w' := by
  have hd : decide (need u ≤ h) = false := by simpa using hn
  have H := Lib.hid hn; clear hn
  go_enter Try.func15, Try.ntmps15
  go_wp2_with (first
    | (go_at_call 41; refine (has_any u h root hu _).mono ?_; rw [hd]; rintro e w1 ⟨rfl, hb1⟩; have hc1 := bcell hb1; obtain ⟨hc, hf⟩ := hc1)
    | (go_at_call 17; refine (len_any hs root h _ (hs.keep _ _ hi (below_on (below_alloc (Below.refl w.heap.size w) _) hb1))).mono ?_; rintro e w2 ⟨rfl, hb2⟩))
  go_ret
  exact ⟨rfl, below_on (below_on (below_alloc (Below.refl w.heap.size w) _) hb1) hb2⟩

end Go.Proofs.Ytnekbbmhjbjicaa

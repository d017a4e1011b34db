/- The contract of Tree.Get, over whatever store. -/
import Derived.Test.YtnekbbmhjbjicaaA1
namespace Go.Proofs.Ytnekbbmhjbjicaa
open Go.RowKit

/-- a number's message in a tree of a height -/
def getR (st : St) (root : Int) (h u : Nat) : Option Nd := if need u ≤ h then getL st u h root else none

theorem getR_pos {st : St} {root : Int} {h u : Nat} (hh : need u ≤ h) : getR st root h u = getL st u h root := if_pos hh
theorem getR_neg {st : St} {root : Int} {h u : Nat} (hh : ¬ need u ≤ h) : getR st root h u = none := if_neg hh

/-- what Get hands back -/
def getV (o : Option Nd) : Value := .tuple #[.agg #[.int .u32 (Nd.of o).rc.uid, .int .u8 (Nd.of o).rc.fl, .string (Nd.of o).rc.txt], .bool o.isSome]
theorem getV_none : getV none = .tuple #[.agg #[.int .u32 0, .int .u8 0, .string ⟨#[]⟩], .bool false] := rfl
theorem getV_some (n : Nd) : getV (some n) = .tuple #[.agg #[.int .u32 n.rc.uid, .int .u8 n.rc.fl, .string n.rc.txt], .bool true] := rfl

set_option maxRecDepth 100000 in
theorem get_no {sv : Value} {st : St} (root : Int) (h u : Nat) (hu : u < 4294967296) (hn : ¬ need u ≤ h) (w : World) :
    Calls Try.prog 12 #[.agg #[.int .i64 root, .int .i64 h], sv, .int .u32 u] w fun e w' => e = .returned (getV (getR st root h u)) ∧ Below w.heap.size w w' := by
  rw [getR_neg hn]
  have hd : decide (need u ≤ h) = false := by simpa using hn
  have H := Lib.hid hn; clear hn
  go_enter Try.func12, Try.ntmps12
  go_wp2_with (first
    | (go_at_call 41; refine (has_any u h root hu _).mono ?_; rw [hd]; rintro e w1 ⟨rfl, hb1⟩; have hc1 := bcell hb1; obtain ⟨hc, hf⟩ := hc1))
  rw [getV_none]
  have hb0 : Below w.heap.size w ((w.alloc (.cells #[.int .i64 root, .int .i64 h] 28)).alloc (.cells #[.int .u32 0, .int .u8 0, .string ⟨#[]⟩] 33)) :=
    ((Below.refl _ _).alloc (Nat.le_refl _) _).alloc (by simp) _
  have hb := hb0.trans (hb1.mono (by simp; omega))
  exact bodyPost_ret (by simp [results, Try.results12, go_sem, hc]) rfl ⟨rfl, ((hb.setCell (by simp) _).setCell (by simp) _).setCell (by simp) _⟩

set_option maxRecDepth 100000 in
theorem get_yes {sv : Value} {st : St} {B : Nat} {Inv : World → Prop} (hs : IsStore sv st B Inv) (root : Int) (h u : Nat) (hu : u < 4294967296) (hn : need u ≤ h) (h8 : h ≤ 8) (w : World) (hi : Inv w) :
    Calls Try.prog 12 #[.agg #[.int .i64 root, .int .i64 h], sv, .int .u32 u] w fun e w' => e = .returned (getV (getR st root h u)) ∧ Below w.heap.size w w' := by
  rw [getR_pos hn]
  have hd : decide (need u ≤ h) = true := by simpa using hn
  have H := Lib.hid hn; clear hn
  go_enter Try.func12, Try.ntmps12
  go_wp2_with (first
    | (go_at_call 41; refine (has_any u h root hu _).mono ?_; rw [hd]; rintro e w1 ⟨rfl, hb1⟩; have hc1 := bcell hb1; obtain ⟨hc, hf⟩ := hc1))
  have hb0 : Below w.heap.size w ((w.alloc (.cells #[.int .i64 root, .int .i64 h] 28)).alloc (.cells #[.int .u32 0, .int .u8 0, .string ⟨#[]⟩] 33)) :=
    ((Below.refl _ _).alloc (Nat.le_refl _) _).alloc (by simp) _
  have hblk : Blk ((w.alloc (.cells #[.int .i64 root, .int .i64 h] 28)).alloc (.cells #[.int .u32 0, .int .u8 0, .string ⟨#[]⟩] 33)) (w.heap.size + 1) 33 #[.int .u32 0, .int .u8 0, .string ⟨#[]⟩] := by
    have := Blk.new (w.alloc (.cells #[.int .i64 root, .int .i64 h] 28)) 33 #[.int .u32 0, .int .u8 0, .string ⟨#[]⟩]
    simpa using this
  have HB := Lib.hid (hblk.stay hb1); clear hblk
  have hb := hb0.trans (hb1.mono (by simp; omega))
  have hi1 : Inv w1 := hs.keep _ _ hi hb
  clear hc hf hb0 hb1
  go_loopw [8, 9] (fun s i wr => ∃ (sl : Int) (r : Nat), r ≤ h ∧ s = .int .i64 sl ∧ i = .int .i64 ((r : Int) - 1) ∧ getL st u r sl = getL st u h root ∧ Inv wr ∧ Below w.heap.size w wr ∧ Blk wr (w.heap.size + 1) 33 #[.int .u32 0, .int .u8 0, .string ⟨#[]⟩])
    (fun _ i _ => (intOf i + 1).toNat)
  case atStart => exact ⟨root, h, Nat.le_refl _, rfl, rfl, rfl, hi1, hb, HB.out⟩
  case round =>
    obtain ⟨sl, r, hr, rfl, rfl, he, hI, hB, hblk⟩ := hrel
    have He := Lib.hid he; clear he
    have HBk := Lib.hid hblk; clear hblk
    rcases r with _ | r
    · have hn := Nd.cells_18 (Nd.of (st sl))
      have hn1 := Nd.cells_19 (Nd.of (st sl))
      have hn2 := Nd.cells_20 (Nd.of (st sl))
      go_wp2_with (first
        | (refine wpList_at rfl (.tmp 44) (.tmp 45) _ rfl hs sl rfl rfl hI ?_; intro w2 hb2; obtain ⟨k0, k1, k2, kf⟩ := (HBk.out.stay hb2).three; have hlt := (HBk.out.stay hb2).lt)
        | (refine wpList_store_new (n := Nd.of (st sl)) rfl (.tmp 12) (.tmp 47) rfl _ rfl rfl rfl ?_))
      rw [← He.out]
      have hB2 := (hB.trans (hb2.mono hB.size))
      exact bodyPost_ret (v := getV (st sl)) (by simp [results, Try.results12, go_sem, k0, k1, k2, hlt]; rfl) rfl ⟨rfl, below_alloc (((hB2.setCell (by simp) _).setCell (by simp) _).setCell (by simp) _) _⟩
    · cases hst : st sl with
      | none =>
        have he : getL st u h root = none := by rw [← He.out]; simp [getL, hst]
        have HE := Lib.hid he; clear he
        go_wp2_with (first
          | (refine wpList_at rfl (.tmp 29) (.tmp 30) _ rfl hs sl rfl rfl hI ?_; rw [hst]; intro w2 hb2; obtain ⟨k0, k1, k2, kf⟩ := (HBk.out.stay hb2).three; have hlt := (HBk.out.stay hb2).lt)
          | (refine wpList_store_new (n := Nd.zero) rfl (.tmp 10) (.tmp 32) rfl _ rfl rfl rfl ?_))
        rw [HE.out, getV_none]
        have hB2 := (hB.trans (hb2.mono hB.size))
        exact bodyPost_ret (by simp [results, Try.results12, go_sem, k0, k1, k2, hlt]) rfl ⟨rfl, below_alloc (((hB2.setCell (by simp) _).setCell (by simp) _).setCell (by simp) _) _⟩
      | some n =>
        have he : getL st u r (n.kids (dig u r)) = getL st u h root := by rw [← He.out]; simp [getL, hst]
        have HE := Lib.hid he; clear he
        have hk := n.cells_kid (dig u r) (dig_lt u r)
        have hd := dig_lt u r
        go_wp2_with (first
          | (refine wpList_at rfl (.tmp 29) (.tmp 30) _ rfl hs sl rfl rfl hI ?_; rw [hst]; intro w2 hb2; have hblk2 := Lib.hid (HBk.out.stay hb2))
          | (refine wpList_store_new (n := n) rfl (.tmp 10) (.tmp 32) rfl _ rfl rfl rfl ?_)
          | (go_at_call 42; refine (digit_any u r hu (by omega) _).mono ?_; rintro e w' ⟨rfl, rfl⟩))
        have hB2 := (hB.trans (hb2.mono hB.size))
        go_roundw
        case rel => exact ⟨n.kids (dig u r), r, by omega, rfl, rfl, HE.out, hs.keep _ _ (hs.keep _ _ hI hb2) ((Below.refl _ _).alloc (Nat.le_refl _) _), hB2.alloc hB2.size _, hblk2.out.alloc _⟩
        case measure => simp [intOf]

theorem get_any {sv : Value} {st : St} {B : Nat} {Inv : World → Prop} (hs : IsStore sv st B Inv) (root : Int) (h u : Nat) (hu : u < 4294967296) (h8 : h ≤ 8) (w : World) (hi : Inv w) :
    Calls Try.prog 12 #[.agg #[.int .i64 root, .int .i64 h], sv, .int .u32 u] w fun e w' => e = .returned (getV (getR st root h u)) ∧ Below w.heap.size w w' := by
  by_cases hn : need u ≤ h
  · exact get_yes hs root h u hu hn h8 w hi
  · exact get_no root h u hu hn w

end Go.Proofs.Ytnekbbmhjbjicaa

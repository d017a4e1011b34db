/- 'out = append(out, Back(r))' in a round, in whatever order. -/
import Derived.Test.YtnekbbmhjbjicaaW6
namespace Go.Proofs.Ytnekbbmhjbjicaa
open Go.RowKit

theorem eval_put (a : Act) (i : Nat) (v : Value) (h : i < a.tmps.size) : (a.put (some i) v).eval (.tmp i) = v := by
  simp [Act.put, Act.eval, Array.getD, h]
theorem eval_far (a : Act) {i j : Nat} (v : Value) (h : i ≠ j) : (a.put (some i) v).eval (.tmp j) = a.eval (.tmp j) := by
  simp [Act.put, Act.eval, Array.getD_eq_getD_getElem?, Array.getElem?_setIfInBounds_ne h]
theorem size_put (a : Act) (i : Nat) (v : Value) : (a.put (some i) v).tmps.size = a.tmps.size := by simp [Act.put]

set_option maxHeartbeats 1000000 in
theorem wpIn_collect {F : Fence} (hF : Wide F) {n id : Nat} {Q : Exit → Act → World → Prop} {l : List Oper} {o0 o1 o2 o3 o4 o5 : Oper} (hl : l = [o0, o1, o2, o3, o4, o5])
    (e0 : o0.op = .load 22 (.tmp 9)) (d0 : o0.dst = some 22) (g0 : o0.guard = none) (e1 : o1.op = .load 33 (.tmp 10)) (d1 : o1.dst = some 23) (g1 : o1.guard = none)
    (e2 : o2.op = .call { callee := .value (.func 14), args := #[.tmp 23], argTypes := #[33] }) (d2 : o2.dst = some 24) (g2 : o2.guard = none) (e3 : o3.op = .buildSlice 22 1 #[(0, .tmp 24)]) (d3 : o3.dst = some 25) (g3 : o3.guard = none)
    (e4 : o4.op = .call { callee := .builtin .append, args := #[.tmp 22, .tmp 25], argTypes := #[22, 22] }) (d4 : o4.dst = some 26) (g4 : o4.guard = none) (e5 : o5.op = .store 22 (.tmp 9) (.tmp 26)) (_d5 : o5.dst = none) (g5 : o5.guard = none)
    (r0 : Region.ready .any l.toArray #[false, false, false, false, false, false] = [0, 1]) (ra : Region.ready .any l.toArray #[true, false, false, false, false, false] = [1])
    (rb : Region.ready .any l.toArray #[false, true, false, false, false, false] = [0, 2]) (rc : Region.ready .any l.toArray #[true, true, false, false, false, false] = [2])
    (rd : Region.ready .any l.toArray #[false, true, true, false, false, false] = [0, 3]) (re : Region.ready .any l.toArray #[true, true, true, false, false, false] = [3])
    (rf : Region.ready .any l.toArray #[false, true, true, true, false, false] = [0]) (rg : Region.ready .any l.toArray #[true, true, true, true, false, false] = [4])
    (rh : Region.ready .any l.toArray #[true, true, true, true, true, false] = [5]) (ri : Region.ready .any l.toArray #[true, true, true, true, true, true] = [])
    {a : Act} {X : World} {b9 b10 base k c : Nat} {V : Option Addr} {u f : Int} {t : ByteArray} {xs : List Value} (hsz : a.tmps.size = 28) (h9 : a.eval (.tmp 9) = .pointer (some ⟨b9, 0, none⟩)) (h10 : a.eval (.tmp 10) = .pointer (some ⟨b10, 0, none⟩))
    (hb9 : Blk X b9 22 #[.slice V k c]) (hb10 : Blk X b10 33 #[.int .u32 u, .int .u8 f, .string t]) (hown : X.ownsRow base 37 3 (.slice V k c) k xs) (hk : k + 1 ≤ 1000000) (hbase : base ≤ X.heap.size)
    (h : ∀ V' c' w' a', w'.ownsRow base 37 3 (.slice V' (k + 1) c') (k + 1) (xs ++ [.int .u32 u, .int .u8 f, .string t]) → X.grownBy w' (ob V) → Blk w' b9 22 #[.slice V k c] → (∀ g, ob V' = some g → ob V = some g ∨ X.heap.size ≤ g) →
      Q .normal a' (w'.setCell ⟨b9, 0, none⟩ (.slice V' (k + 1) c'))) :
    (Code.region id l.toArray true).wpIn F n Try.prog Q a X := by
  have D0 : ∀ c, o0.op ≠ .defer c := by rw [e0]; intro c e; cases e
  have D1 : ∀ c, o1.op ≠ .defer c := by rw [e1]; intro c e; cases e
  have D2 : ∀ c, o2.op ≠ .defer c := by rw [e2]; intro c e; cases e
  have D3 : ∀ c, o3.op ≠ .defer c := by rw [e3]; intro c e; cases e
  have D4 : ∀ c, o4.op ≠ .defer c := by rw [e4]; intro c e; cases e
  have D5 : ∀ c, o5.op ≠ .defer c := by rw [e5]; intro c e; cases e
  refine wpIn_region_any mixed ?_
  have hX : Below X.heap.size X X.drew := ⟨rfl, rfl, rfl, Nat.le_refl _, fun _ _ => rfl⟩
  have i0 : l.toArray[0]? = some o0 := by rw [hl]; rfl
  have i1 : l.toArray[1]? = some o1 := by rw [hl]; rfl
  have i2 : l.toArray[2]? = some o2 := by rw [hl]; rfl
  have i3 : l.toArray[3]? = some o3 := by rw [hl]; rfl
  have i4 : l.toArray[4]? = some o4 := by rw [hl]; rfl
  have i5 : l.toArray[5]? = some o5 := by rw [hl]; rfl
  have hls : l.toArray.size = 6 := by rw [hl]; rfl
  rw [hls]
  clear hl hls
  have he : ∀ v : Value, ∀ i : Nat, i < 28 → i < a.tmps.size := fun _ i h => by omega
  -- behind the literal
  have tail : ∀ (a' : Act) (w' : World), a'.tmps.size = 28 → a'.eval (.tmp 9) = .pointer (some ⟨b9, 0, none⟩) → a'.eval (.tmp 22) = .slice V k c → a'.eval (.tmp 25) = .slice (some ⟨w'.heap.size, 0, none⟩) 1 1 → Below X.heap.size X w' →
      wpAnyIn F n Try.prog .any l.toArray Q 2 #[true, true, true, true, false, false] a' (w'.alloc (.cells #[.int .u32 u, .int .u8 f, .string t] 37)) := by
    intro a' w' hs' h9' h22 h25 hb
    refine anyIn1 hF 4 #[true, true, true, true, true, false] rfl rg i4 g4 D4 fun K hK => ?_
    refine wp_app elem37 _ _ e4 base V k c xs h22 (hown.kept (grown_of_below hb none) (Classical.em _)) h25 rfl (by simp [Value.oneCell']) hk (by decide) (Nat.le_trans hbase hb.size) ?_
    intro V' c' w2 ho hg hob
    rw [d4]
    refine hK _ _ (anyIn1 hF 5 #[true, true, true, true, true, true] rfl rh i5 g5 D5 fun K' hK' => ?_)
    have hb9' : Blk w2 b9 22 #[.slice V k c] := by
      have h1 := hb9.stay hb
      exact (hg.block b9 h1.lt (fun e => own_ne hown hb9 (by decide) e.symm)).trans h1
    refine wp_st22 _ _ e5 (by rw [eval_far _ _ (by decide)]; exact h9') (eval_put _ _ _ (by omega)) rfl ⟨_, _, _, rfl⟩ hb9' (hK' _ _ (wpAnyIn_done ri (h V' c' w2 _ ho ?_ hb9' ?_) _))
    · exact grown_trans (grown_of_below hb (ob V)) hg (fun g e => .inl e)
    · intro g e
      rcases hob g e with h1 | h1
      · exact .inl h1
      · exact .inr (Nat.le_trans hb.size h1)
  have hXd : ∀ (w' : World), Below X.drew.heap.size X.drew w' → Below X.heap.size X w' := fun w' h => hX.trans h
  have ev : ∀ (a' : Act) (i : Nat) (v : Value), a'.tmps.size = 28 → i < 28 → (a'.put (some i) v).eval (.tmp i) = v := fun a' i v h1 h2 => eval_put a' i v (by omega)
  have sz : ∀ (a' : Act) (i : Nat) (v : Value), a'.tmps.size = 28 → (a'.put (some i) v).tmps.size = 28 := fun a' i v h => by rw [size_put]; exact h
  change wpAnyIn F n Try.prog .any l.toArray Q 6 #[false, false, false, false, false, false] a X.drew
  refine anyIn2 hF 0 1 #[true, false, false, false, false, false] #[false, true, false, false, false, false] rfl rfl r0 i0 g0 D0 i1 g1 D1 (fun K hK => ?_) (fun K hK => ?_)
  · -- the list first
    refine wp_ld22 _ e0 h9 hb9 ?_
    rw [d0]
    refine hK _ _ (anyIn1 hF 1 #[true, true, false, false, false, false] rfl ra i1 g1 D1 fun K1 hK1 => ?_)
    refine wp_ld33 _ e1 (by rw [eval_far _ _ (by decide)]; exact h10) hb10 ?_
    rw [d1]
    refine hK1 _ _ (anyIn1 hF 2 #[true, true, true, false, false, false] rfl rc i2 g2 D2 fun K2 hK2 => ?_)
    refine wp_back _ _ e2 (ev _ _ _ (sz _ _ _ hsz) (by decide)) fun w1 hb1 => ?_
    rw [d2]
    refine hK2 _ _ (anyIn1 hF 3 #[true, true, true, true, false, false] rfl re i3 g3 D3 fun K3 hK3 => ?_)
    refine wp_one37 _ e3 (ev _ _ _ (sz _ _ _ (sz _ _ _ hsz)) (by decide)) ?_
    rw [d3]
    refine hK3 _ _ (tail _ _ (sz _ _ _ (sz _ _ _ (sz _ _ _ (sz _ _ _ hsz)))) ?_ ?_ ?_ (hXd _ hb1))
    · simpa only [eval_far _ _ (show (25 : Nat) ≠ 9 by decide), eval_far _ _ (show (24 : Nat) ≠ 9 by decide), eval_far _ _ (show (23 : Nat) ≠ 9 by decide), eval_far _ _ (show (22 : Nat) ≠ 9 by decide)] using h9
    · simpa only [eval_far _ _ (show (25 : Nat) ≠ 22 by decide), eval_far _ _ (show (24 : Nat) ≠ 22 by decide), eval_far _ _ (show (23 : Nat) ≠ 22 by decide)] using ev _ _ _ hsz (by decide)
    · exact ev _ _ _ (sz _ _ _ (sz _ _ _ (sz _ _ _ hsz))) (by decide)
  · refine wp_ld33 _ e1 h10 hb10 ?_
    rw [d1]
    refine hK _ _ (anyIn2 hF 0 2 #[true, true, false, false, false, false] #[false, true, true, false, false, false] rfl rfl rb i0 g0 D0 i2 g2 D2 (fun K1 hK1 => ?_) (fun K1 hK1 => ?_))
    · refine wp_ld22 _ e0 (by rw [eval_far _ _ (by decide)]; exact h9) hb9 ?_
      rw [d0]
      refine hK1 _ _ (anyIn1 hF 2 #[true, true, true, false, false, false] rfl rc i2 g2 D2 fun K2 hK2 => ?_)
      refine wp_back _ _ e2 (by rw [eval_far _ _ (by decide)]; exact ev _ _ _ hsz (by decide)) fun w1 hb1 => ?_
      rw [d2]
      refine hK2 _ _ (anyIn1 hF 3 #[true, true, true, true, false, false] rfl re i3 g3 D3 fun K3 hK3 => ?_)
      refine wp_one37 _ e3 (ev _ _ _ (sz _ _ _ (sz _ _ _ hsz)) (by decide)) ?_
      rw [d3]
      refine hK3 _ _ (tail _ _ (sz _ _ _ (sz _ _ _ (sz _ _ _ (sz _ _ _ hsz)))) ?_ ?_ ?_ (hXd _ hb1))
      · simpa only [eval_far _ _ (show (25 : Nat) ≠ 9 by decide), eval_far _ _ (show (24 : Nat) ≠ 9 by decide), eval_far _ _ (show (23 : Nat) ≠ 9 by decide), eval_far _ _ (show (22 : Nat) ≠ 9 by decide)] using h9
      · simpa only [eval_far _ _ (show (25 : Nat) ≠ 22 by decide), eval_far _ _ (show (24 : Nat) ≠ 22 by decide)] using ev _ _ _ (sz _ _ _ hsz) (by decide)
      · exact ev _ _ _ (sz _ _ _ (sz _ _ _ (sz _ _ _ hsz))) (by decide)
    · refine wp_back _ _ e2 (ev _ _ _ hsz (by decide)) fun w1 hb1 => ?_
      rw [d2]
      have hb9w : Blk w1 b9 22 #[.slice V k c] := hb9.stay (hXd _ hb1)
      refine hK1 _ _ (anyIn2 hF 0 3 #[true, true, true, false, false, false] #[false, true, true, true, false, false] rfl rfl rd i0 g0 D0 i3 g3 D3 (fun K2 hK2 => ?_) (fun K2 hK2 => ?_))
      · refine wp_ld22 _ e0 (by rw [eval_far _ _ (by decide), eval_far _ _ (by decide)]; exact h9) hb9w ?_
        rw [d0]
        refine hK2 _ _ (anyIn1 hF 3 #[true, true, true, true, false, false] rfl re i3 g3 D3 fun K3 hK3 => ?_)
        refine wp_one37 _ e3 (by rw [eval_far _ _ (by decide)]; exact ev _ _ _ (sz _ _ _ hsz) (by decide)) ?_
        rw [d3]
        refine hK3 _ _ (tail _ _ (sz _ _ _ (sz _ _ _ (sz _ _ _ (sz _ _ _ hsz)))) ?_ ?_ ?_ (hXd _ hb1))
        · simpa only [eval_far _ _ (show (25 : Nat) ≠ 9 by decide), eval_far _ _ (show (24 : Nat) ≠ 9 by decide), eval_far _ _ (show (23 : Nat) ≠ 9 by decide), eval_far _ _ (show (22 : Nat) ≠ 9 by decide)] using h9
        · simpa only [eval_far _ _ (show (25 : Nat) ≠ 22 by decide)] using ev _ _ _ (sz _ _ _ (sz _ _ _ hsz)) (by decide)
        · exact ev _ _ _ (sz _ _ _ (sz _ _ _ (sz _ _ _ hsz))) (by decide)
      · refine wp_one37 _ e3 (ev _ _ _ (sz _ _ _ hsz) (by decide)) ?_
        rw [d3]
        refine hK2 _ _ (anyIn1 hF 0 #[true, true, true, true, false, false] rfl rf i0 g0 D0 fun K3 hK3 => ?_)
        refine wp_ld22 _ e0 (by rw [eval_far _ _ (by decide), eval_far _ _ (by decide), eval_far _ _ (by decide)]; exact h9) (hb9w.alloc _) ?_
        rw [d0]
        refine hK3 _ _ (tail _ _ (sz _ _ _ (sz _ _ _ (sz _ _ _ (sz _ _ _ hsz)))) ?_ ?_ ?_ (hXd _ hb1))
        · simpa only [eval_far _ _ (show (25 : Nat) ≠ 9 by decide), eval_far _ _ (show (24 : Nat) ≠ 9 by decide), eval_far _ _ (show (23 : Nat) ≠ 9 by decide), eval_far _ _ (show (22 : Nat) ≠ 9 by decide)] using h9
        · exact ev _ _ _ (sz _ _ _ (sz _ _ _ (sz _ _ _ hsz))) (by decide)
        · rw [eval_far _ _ (by decide)]; exact ev _ _ _ (sz _ _ _ (sz _ _ _ hsz)) (by decide)
end Go.Proofs.Ytnekbbmhjbjicaa

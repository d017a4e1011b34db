/- slots: a tree's slots, each branch ahead of what stands below it. -/
import Derived.Test.YtnekbbmhjbjicaaW2
namespace Go.Proofs.Ytnekbbmhjbjicaa
open Go.RowKit
attribute [local go_sem] Oper.semAt_some

/-- the slots from a slot on, so many ranks down -/
def wl (st : St) : Nat → Int → List (Int × Nd)
  | 0, slot => match st slot with
    | none => []
    | some n => [(slot, n)]
  | r + 1, slot => match st slot with
    | none => []
    | some n => (slot, n) :: (if n.kind = 1 then (List.range 16).flatMap (fun d => wl st r (n.kids d)) else [])

/-- no branch lies deeper than so many ranks -/
def Deep (st : St) : Nat → Int → Prop
  | 0, slot => ∀ n, st slot = some n → n.kind ≠ 1
  | r + 1, slot => ∀ n, st slot = some n → n.kind = 1 → ∀ d, d < 16 → Deep st r (n.kids d)

/-- what a call of yield brings -/
def Rounds (l n₀ S : Nat) (J Jx : Nat → World → Prop) (k : Nat) (x : Int × Nd) : Prop :=
  ∀ W, J k W → YieldAt Fence.wide 0 Try.prog l #[.int .i64 x.1, .agg x.2.cells] W fun e W' => (e = .returned (.bool true) ∧ J (k + 1) W' ∧ Held n₀ S W W') ∨ (e = .returned (.bool false) ∧ Jx (k + 1) W')

def SlotsPost (n₀ S : Nat) (J Jx : Nat → World → Prop) (k m : Nat) (W : World) (e : Ending) (W' : World) : Prop :=
  (e = .returned (.bool true) ∧ J (k + m) W' ∧ Held n₀ S W W') ∨ (e = .returned (.bool false) ∧ ∃ j, j < m ∧ Jx (k + j + 1) W')

theorem wl_none {st : St} {slot : Int} (h : st slot = none) : ∀ r, wl st r slot = []
  | 0 => by simp [wl, h]
  | r + 1 => by simp [wl, h]

set_option maxRecDepth 100000 in
set_option maxHeartbeats 1000000 in
theorem slots_none {sv : Value} {st : St} {B : Nat} {Inv : World → Prop} (hs : IsStore sv st B Inv) (l k n₀ S : Nat) (J Jx : Nat → World → Prop) (hJ : ∀ k W W', J k W → Below W.heap.size W W' → J k W')
    (hJI : ∀ k W, J k W → Inv W) (slot : Int) (W : World) (hst : st slot = none) (h0 : J k W) :
    CallsIn Fence.wide 0 Try.prog 45 #[sv, .int .i64 slot, .func (.yield l) #[] #[]] W (SlotsPost n₀ S J Jx k 0 W) := by
  have hi := hJI _ _ h0
  refine callsIn_of_wp Try.func45 rfl trivial ?_
  simp only [Try.ntmps45, List.size_toArray, List.length_cons, List.length_nil, Nat.reduceAdd, Nat.reduceSub, Array.replicate_succ, Array.replicate_zero, List.push_toArray, List.append_toArray, List.nil_append, List.cons_append]
  have h3 := Nd.zero.cells_0
  have H0 := Lib.hid h0; clear h0
  by_cases hd : decide (slot < 0) = true
  · gi_wp2_with (first
      | (refine wpListIn_at Wide.wide rfl (.tmp 12) (.tmp 13) _ rfl hs slot rfl rfl hi ?_; rw [hst]; intro w1 hb1)
      | (refine wpListIn_store_new (nd := Nd.zero) Wide.wide rfl (.tmp 7) (.tmp 15) rfl _ rfl rfl rfl ?_))
    go_ret
    exact .inl ⟨rfl, hJ _ _ _ H0.out (below_alloc hb1 _), .of_below (below_alloc hb1 _)⟩
  · have hd : decide (slot < 0) = false := by simpa using hd
    gi_wp2_with (first
      | (refine wpListIn_at Wide.wide rfl (.tmp 12) (.tmp 13) _ rfl hs slot rfl rfl hi ?_; rw [hst]; intro w1 hb1)
      | (refine wpListIn_store_new (nd := Nd.zero) Wide.wide rfl (.tmp 7) (.tmp 15) rfl _ rfl rfl rfl ?_))
    go_ret
    exact .inl ⟨rfl, hJ _ _ _ H0.out (below_alloc hb1 _), .of_below (below_alloc hb1 _)⟩

/-- the slots below a branch's first d -/
def wlTo (st : St) (r : Nat) (n : Nd) (d : Nat) : List (Int × Nd) := (List.range d).flatMap (fun e => wl st r (n.kids e))
theorem wlTo_succ (st : St) (r : Nat) (n : Nd) (d : Nat) : wlTo st r n (d + 1) = wlTo st r n d ++ wl st r (n.kids d) := by
  unfold wlTo; rw [List.range_succ, List.flatMap_append]; simp
theorem wl_some {st : St} {slot : Int} {n : Nd} (h : st slot = some n) (hk : n.kind ≠ 1) : ∀ r, wl st r slot = [(slot, n)]
  | 0 => by simp [wl, h]
  | r + 1 => by simp [wl, h, hk]
theorem wl_branch {st : St} {slot : Int} {n : Nd} (h : st slot = some n) (hk : n.kind = 1) (r : Nat) : wl st (r + 1) slot = (slot, n) :: wlTo st r n 16 := by
  simp [wl, h, hk, wlTo]
theorem wlTo_get {st : St} {r : Nat} {n : Nd} {d j : Nat} {x : Int × Nd} (hd : d < 16) (h : (wl st r (n.kids d))[j]? = some x) : (wlTo st r n 16)[(wlTo st r n d).length + j]? = some x := by
  have key : ∀ m, d + 1 ≤ m → (wlTo st r n m)[(wlTo st r n d).length + j]? = some x := by
    intro m
    induction m with
    | zero => intro h; omega
    | succ m ih =>
      intro hm
      rcases Nat.lt_or_ge d m with h1 | h1
      · rw [wlTo_succ, List.getElem?_append_left (List.getElem?_eq_some_iff.1 (ih h1)).1]; exact ih h1
      · obtain rfl : m = d := by omega
        rw [wlTo_succ, List.getElem?_append_right (by omega), Nat.add_sub_cancel_left]; exact h
  exact key 16 (by omega)
theorem wlTo_le (st : St) (r : Nat) (n : Nd) {d : Nat} (hd : d < 16) : (wlTo st r n d).length + (wl st r (n.kids d)).length ≤ (wlTo st r n 16).length := by
  have key : ∀ m, d + 1 ≤ m → (wlTo st r n (d + 1)).length ≤ (wlTo st r n m).length := by
    intro m
    induction m with
    | zero => intro h; omega
    | succ m ih =>
      intro hm
      rcases Nat.lt_or_ge d m with h1 | h1
      · rw [wlTo_succ st r n m, List.length_append]; have := ih h1; omega
      · obtain rfl : m = d := by omega
        exact Nat.le_refl _
  have := key 16 (by omega)
  rw [wlTo_succ, List.length_append] at this
  exact this

set_option maxRecDepth 100000 in
set_option maxHeartbeats 2000000 in
theorem slots_leaf {sv : Value} {st : St} {B : Nat} {Inv : World → Prop} (hs : IsStore sv st B Inv) (l k n₀ S : Nat) (J Jx : Nat → World → Prop) (hJ : ∀ k W W', J k W → Below W.heap.size W W' → J k W')
    (hJI : ∀ k W, J k W → Inv W) (hJS : ∀ k W, J k W → S ≤ W.heap.size) (slot : Int) (W : World) (h0s : 0 ≤ slot) (n : Nd) (hst : st slot = some n) (hnk : n.kind ≠ 1) (h0 : J k W) (hY : Rounds l n₀ S J Jx k (slot, n)) :
    CallsIn Fence.wide 0 Try.prog 45 #[sv, .int .i64 slot, .func (.yield l) #[] #[]] W (SlotsPost n₀ S J Jx k 1 W) := by
  have hi := hJI _ _ h0
  have hS := hJS _ _ h0
  refine callsIn_of_wp Try.func45 rfl trivial ?_
  simp only [Try.ntmps45, List.size_toArray, List.length_cons, List.length_nil, Nat.reduceAdd, Nat.reduceSub, Array.replicate_succ, Array.replicate_zero, List.push_toArray, List.append_toArray, List.nil_append, List.cons_append]
  have hd : decide (slot < 0) = false := by simpa using h0s
  have hk1 : ((n.kind : Int) == 1) = false := by simp; omega
  have hY2 := fun W1 (hb1 : Below W.heap.size W W1) => hY (W1.alloc (.cells n.cells 60)) (hJ _ _ _ h0 (below_alloc hb1 _))
  have HY := Lib.hid hY2; have HK := Lib.hid hnk; have H0 := Lib.hid h0; have HS := Lib.hid hS
  clear hY hY2 hnk h0 hS
  gi_wp2_with (first
    | (refine wpListIn_at Wide.wide rfl (.tmp 12) (.tmp 13) _ rfl hs slot rfl rfl hi ?_; rw [hst]; intro w1 hb1)
    | (refine wpListIn_store_new (nd := n) Wide.wide rfl (.tmp 7) (.tmp 15) rfl _ rfl rfl rfl ?_; obtain ⟨fn, tmps, assign, body, hy, hR⟩ := HY.out w1 hb1; have HB := Lib.hid (Blk.new w1 60 n.cells))
    | (refine wpListIn_load_blk (nd := n) Wide.wide rfl (.tmp 7) rfl rfl HB.out ?_))
  refine hR.mono ?_
  clear hR hy
  have hlw : W.heap.size ≤ w1.heap.size := hb1.size
  rintro e W2 (⟨rfl, hJ2, hh2⟩ | ⟨rfl, hx2⟩)
  · have c0 : W2.cell? ⟨w1.heap.size, 0, none⟩ = some (.int .u8 n.kind) := (hh2.blk HB.out (.inr (by have := HS.out; omega))).cell 0
    have HH := Lib.hid hh2; clear hh2
    gi_wp2_with fail
    go_ret
    exact .inl ⟨rfl, hJ2, ((Held.of_below hb1).alloc _).trans HH.out⟩
  · gi_wp2_with fail
    go_ret
    exact .inr ⟨rfl, 0, by omega, hx2⟩

set_option maxRecDepth 100000 in
set_option maxHeartbeats 4000000 in
theorem slots_branch {sv : Value} {st : St} {B : Nat} {Inv : World → Prop} (hs : IsStore sv st B Inv) (l k n₀ S : Nat) (J Jx : Nat → World → Prop) (hJ : ∀ k W W', J k W → Below W.heap.size W W' → J k W')
    (hJI : ∀ k W, J k W → Inv W) (hJS : ∀ k W, J k W → S ≤ W.heap.size) (r : Nat)
    (ih : ∀ (slot : Int) (k : Nat) (W : World), Deep st r slot → J k W → (∀ j x, (wl st r slot)[j]? = some x → Rounds l n₀ S J Jx (k + j) x) →
      CallsIn Fence.wide 0 Try.prog 45 #[sv, .int .i64 slot, .func (.yield l) #[] #[]] W (SlotsPost n₀ S J Jx k (wl st r slot).length W))
    (slot : Int) (W : World) (h0s : 0 ≤ slot) (n : Nd) (hst : st slot = some n) (hnk : n.kind = 1) (hdp : ∀ d, d < 16 → Deep st r (n.kids d)) (h0 : J k W) (hY : ∀ j x, (wl st (r + 1) slot)[j]? = some x → Rounds l n₀ S J Jx (k + j) x) :
    CallsIn Fence.wide 0 Try.prog 45 #[sv, .int .i64 slot, .func (.yield l) #[] #[]] W (SlotsPost n₀ S J Jx k (wl st (r + 1) slot).length W) := by
  have hi := hJI _ _ h0
  have hS := hJS _ _ h0
  rw [wl_branch hst hnk] at hY ⊢
  have hYk : ∀ d, d < 16 → ∀ j x, (wl st r (n.kids d))[j]? = some x → Rounds l n₀ S J Jx (k + 1 + (wlTo st r n d).length + j) x := fun d hd j x hx => by
    have := hY ((wlTo st r n d).length + j + 1) x (by rw [List.getElem?_cons_succ]; exact wlTo_get hd hx)
    rw [show k + 1 + (wlTo st r n d).length + j = k + ((wlTo st r n d).length + j + 1) by omega]
    exact this
  have hle := fun d (hd : d < 16) => wlTo_le st r n hd
  have hzero : (wlTo st r n 0).length = 0 := by simp [wlTo]
  have hsucc := fun d => wlTo_succ st r n d
  have hlen : ((slot, n) :: wlTo st r n 16).length = 1 + (wlTo st r n 16).length := by rw [List.length_cons]; omega
  rw [hlen]
  refine callsIn_of_wp Try.func45 rfl trivial ?_
  simp only [Try.ntmps45, List.size_toArray, List.length_cons, List.length_nil, Nat.reduceAdd, Nat.reduceSub, Array.replicate_succ, Array.replicate_zero, List.push_toArray, List.append_toArray, List.nil_append, List.cons_append]
  have hd : decide (slot < 0) = false := by simpa using h0s
  have hk1 : ((n.kind : Int) == 1) = true := by simp [hnk]
  have hY2 := fun W1 (hb1 : Below W.heap.size W W1) => hY 0 (slot, n) rfl (W1.alloc (.cells n.cells 60)) (hJ _ _ _ h0 (below_alloc hb1 _))
  have HY := Lib.hid hY2; have HK := Lib.hid hnk; have H0 := Lib.hid h0; have HS := Lib.hid hS; have HYK := Lib.hid hYk; have HLE := Lib.hid hle; have HZ := Lib.hid hzero; have HSU := Lib.hid hsucc; have HLN := Lib.hid hlen
  have IH := Lib.hid ih; have HDP := Lib.hid hdp
  clear hY hY2 hnk h0 hS hYk hle hzero hsucc hlen ih hdp
  gi_wp2_with (first
    | (refine wpListIn_at Wide.wide rfl (.tmp 12) (.tmp 13) _ rfl hs slot rfl rfl hi ?_; rw [hst]; intro w1 hb1)
    | (refine wpListIn_store_new (nd := n) Wide.wide rfl (.tmp 7) (.tmp 15) rfl _ rfl rfl rfl ?_; obtain ⟨fn, tmps, assign, body, hy, hR⟩ := HY.out w1 hb1; have HB := Lib.hid (Blk.new w1 60 n.cells))
    | (refine wpListIn_load_blk (nd := n) Wide.wide rfl (.tmp 7) rfl rfl HB.out ?_))
  refine hR.mono ?_
  clear hR hy
  have hlw : W.heap.size ≤ w1.heap.size := hb1.size
  rintro e W2 (⟨rfl, hJ2, hh2⟩ | ⟨rfl, hx2⟩)
  · have HB2 := Lib.hid (hh2.blk HB.out (.inr (by have := HS.out; omega)))
    have c0 : W2.cell? ⟨w1.heap.size, 0, none⟩ = some (.int .u8 n.kind) := HB2.out.cell 0
    have HH := Lib.hid (((Held.of_below hb1 : Held n₀ S W w1).alloc (.cells n.cells 60)).trans hh2); clear hh2
    have HJ2 := Lib.hid hJ2
    gi_wp2_with (first
      | (refine wpListIn_load_kids (nd := n) Wide.wide rfl (.tmp 31) rfl rfl HB2.out ?_))
    gi_loopw [33] (fun x wr => ∃ d : Nat, d ≤ 16 ∧ x = .int .i64 d ∧ J (k + 1 + (wlTo st r n d).length) wr ∧ Held n₀ S W wr) (fun x _ => (16 - intOf x).toNat)
    case atStart => exact ⟨0, by omega, rfl, by rw [HZ.out]; exact HJ2.out, HH.out⟩
    case round =>
      obtain ⟨d, hd16, rfl, hJd, hHd⟩ := hrel
      clear c0 hJ2
      by_cases hlt : d < 16
      · have hcall := IH.out (n.kids d) _ wr (HDP.out d hlt) hJd (HYK.out d hlt)
        have HC := Lib.hid hcall; have HHD := Lib.hid hHd
        clear hcall hHd hJd
        have hlt2 : decide ((d : Int) < 16) = true := by simp; omega
        have hidx := fun W : World => run_kid n W d hlt
        gi_wp2_with fail
        refine HC.out.mono ?_
        rintro e W3 (⟨rfl, hJ3, hh3⟩ | ⟨rfl, j, hj, hx3⟩)
        · gi_wp2_with fail
          go_roundw
          case rel => exact ⟨d + 1, by omega, by go_num, by rw [HSU.out, List.length_append, ← Nat.add_assoc]; exact hJ3, HHD.out.trans hh3⟩
          case measure => simp [intOf]; omega
        · gi_wp2_with fail
          go_ret
          refine .inr ⟨rfl, 1 + (wlTo st r n d).length + j, by have := HLE.out d hlt; omega, ?_⟩
          rw [show k + (1 + (wlTo st r n d).length + j) + 1 = k + 1 + (wlTo st r n d).length + j + 1 by omega]
          exact hx3
      · obtain rfl : d = 16 := by omega
        have HJD := Lib.hid hJd; have HHD := Lib.hid hHd
        clear hHd hJd
        have hlt2 : decide (((16 : Nat) : Int) < 16) = false := by simp
        gi_wp2_with fail
        go_ret
        exact .inl ⟨rfl, by rw [← Nat.add_assoc]; exact HJD.out, HHD.out⟩
  · gi_wp2_with fail
    go_ret
    exact .inr ⟨rfl, 0, by omega, hx2⟩

set_option maxRecDepth 100000 in
set_option maxHeartbeats 4000000 in
theorem slots_any {sv : Value} {st : St} {B : Nat} {Inv : World → Prop} (hs : IsStore sv st B Inv) (hneg : ∀ s, s < 0 → st s = none) (l n₀ S : Nat) (J Jx : Nat → World → Prop) (hJ : ∀ k W W', J k W → Below W.heap.size W W' → J k W')
    (hJI : ∀ k W, J k W → Inv W) (hJS : ∀ k W, J k W → S ≤ W.heap.size) : ∀ (r : Nat) (slot : Int) (k : Nat) (W : World), Deep st r slot → J k W → (∀ j x, (wl st r slot)[j]? = some x → Rounds l n₀ S J Jx (k + j) x) →
    CallsIn Fence.wide 0 Try.prog 45 #[sv, .int .i64 slot, .func (.yield l) #[] #[]] W (SlotsPost n₀ S J Jx k (wl st r slot).length W) := by
  intro r
  induction r with
  | zero =>
    intro slot k W hd h0 hY
    cases hst : st slot with
    | none => rw [wl_none hst]; exact slots_none hs l k n₀ S J Jx hJ hJI slot W hst h0
    | some n =>
      have hnk := hd n hst
      rw [wl_some hst hnk] at hY ⊢
      have hpos : 0 ≤ slot := by
        rcases Int.lt_or_le slot 0 with h | h
        · rw [hneg slot h] at hst; cases hst
        · exact h
      exact slots_leaf hs l k n₀ S J Jx hJ hJI hJS slot W hpos n hst hnk h0 (hY 0 _ rfl)
  | succ r ih =>
    intro slot k W hd h0 hY
    cases hst : st slot with
    | none => rw [wl_none hst]; exact slots_none hs l k n₀ S J Jx hJ hJI slot W hst h0
    | some n =>
      have hpos : 0 ≤ slot := by
        rcases Int.lt_or_le slot 0 with h | h
        · rw [hneg slot h] at hst; cases hst
        · exact h
      by_cases hnk : n.kind = 1
      · exact slots_branch hs l k n₀ S J Jx hJ hJI hJS r ih slot W hpos n hst hnk (hd n hst hnk) h0 hY
      · rw [wl_some hst hnk] at hY ⊢
        exact slots_leaf hs l k n₀ S J Jx hJ hJI hJS slot W hpos n hst hnk h0 (hY 0 _ rfl)
end Go.Proofs.Ytnekbbmhjbjicaa

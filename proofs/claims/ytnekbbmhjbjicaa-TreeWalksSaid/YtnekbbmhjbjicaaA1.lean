/- Laws for a store's method At, for whole nodes in new blocks; contracts of the smallest functions. -/
import Derived.Test.YtnekbbmhjbjicaaRows
import Derived.Test.YtnekbbmhjbjicaaM
import Derived.WalkKit
import Derived.WalkLawsBesides
import Derived.WalkSpells
import Derived.Lib.Hide
import Derived.Deep.WholeRow
import Derived.Deep.MidRow
import Derived.Deep.QuietTactic
import Derived.BigQuiet
namespace Go.Proofs.Ytnekbbmhjbjicaa
open Go.RowKit

theorem ret_int {k : IntKind} {a b : Int} (h : a = b) : Ending.returned (.int k a) = .returned (.int k b) := by rw [h]

theorem bcell {W w1 : World} (hb : Below W.heap.size W w1) : (∀ b o, b < W.heap.size → w1.cell? ⟨b, o, none⟩ = W.cell? ⟨b, o, none⟩) ∧ (∀ b o, b < W.heap.size → w1.frozen? ⟨b, o, none⟩ = W.frozen? ⟨b, o, none⟩) :=
  ⟨fun b o h => hb.cell (p := ⟨b, o, none⟩) h, fun b o h => hb.frozen (p := ⟨b, o, none⟩) h⟩

/-- sv is a store that answers as st wherever Inv holds -/
structure IsStore (sv : Value) (st : St) (B : Nat) (Inv : World → Prop) : Prop where
  at_ : ∀ (slot : Int) (w : World), Inv w → ∃ f recv, (∀ w, (callMethod sv "At" #[.int .i64 slot]).run Try.prog w = .ok (.enter f #[recv, .int .i64 slot]) w) ∧
    Calls Try.prog f #[recv, .int .i64 slot] w fun e w' => e = .returned (.tuple #[.agg (Nd.of (st slot)).cells, .bool (st slot).isSome]) ∧ Below w.heap.size w w'
  kept : ∀ w w', Inv w → Below B w w' → Inv w'
  le : ∀ w, Inv w → B ≤ w.heap.size
  less : st (-1) = none

theorem IsStore.keep {sv : Value} {st : St} {B : Nat} {Inv : World → Prop} (hs : IsStore sv st B Inv) (w w' : World) (hi : Inv w) (hb : Below w.heap.size w w') : Inv w' :=
  hs.kept w w' hi (hb.mono (hs.le w hi))

section
variable {ops : Array Oper} {rest : List Oper} {o : Oper} {a : Act} {w : World} {Q : Exit → Act → World → Prop}

theorem wpList_at (hg : o.guard = none) (r x : Operand) (tys : Array TypeId) (ho : o.op = .call { callee := .invoke r "At", args := #[x], argTypes := tys }) {sv : Value} {st : St} {B : Nat} {Inv : World → Prop}
    (hs : IsStore sv st B Inv) (slot : Int) (hr : a.eval r = sv) (hx : a.eval x = .int .i64 slot) (hi : Inv w)
    (h : ∀ w', Below w.heap.size w w' → wpList Try.prog ops Q rest (a.put o.dst (.tuple #[.agg (Nd.of (st slot)).cells, .bool (st slot).isSome])) w') : wpList Try.prog ops Q (o :: rest) a w :=
  wpList_plain hg fun _ hK => by
    obtain ⟨f, recv, hm, hc⟩ := hs.at_ slot w hi
    unfold Oper.wp execOp
    simp only [ho, resolve, invoke, Sem.run_bind, Sem.run_pure, Result.andThen_ok, List.map_toArray, List.map_cons, List.map_nil, hr, hx]
    have e1 : (#[sv] ++ #[Value.int .i64 slot] : Array Value)[0]? = some sv := rfl
    have e2 : (#[sv] ++ #[Value.int .i64 slot] : Array Value).extract 1 (#[sv] ++ #[Value.int .i64 slot] : Array Value).size = #[Value.int .i64 slot] := by simp
    simp only [e1, e2, hm]
    exact hc.mono fun e w' ⟨he, hb⟩ => by subst he; exact hK _ _ (h w' hb)

/-- a node's type -/
theorem info60 : (Try.prog.info? 60).map (·.size) = some 26 := by kernel_rfl

/-- a whole node into the block that was just made for it -/
theorem wpList_store_new {n : Nd} (hg : o.guard = none) (x y : Operand) (ho : o.op = .store 60 x y) (c : Array Value) (hx : a.eval x = .pointer (some ⟨w.heap.size, 0, none⟩)) (hy : a.eval y = .agg n.cells) (hc : c.size = 26)
    (h : wpList Try.prog ops Q rest (a.put o.dst undef) (w.alloc (.cells n.cells 60))) : wpList Try.prog ops Q (o :: rest) a (w.alloc (.cells c 60)) :=
  wpList_plain hg fun _ hK => by
    unfold Oper.wp execOp
    simp only [ho, hx, hy, Sem.run_bind, run_storeAt_new (P := Try.prog) w 60 c n.cells info60 hc n.cells_one, Result.andThen_ok, Sem.run_pure]
    exact hK _ _ h

/-- the cells of a node in a new block -/
theorem cell_new_nd (w : World) (n : Nd) (j : Nat) : (w.alloc (.cells n.cells 60)).cell? ⟨w.heap.size, j, none⟩ = n.cells[j]? :=
  cell_of_row _ _ j n.cells 60 (0, 0) (heap_alloc_last w _)
end

theorem need_any (u : Nat) (w : World) (hu : u < 4294967296) :
    Calls Try.prog 18 #[.int .u32 u] w fun e w' => e = .returned (.int .i64 (need u)) ∧ w = w' := by
  have H := Lib.hid (need_le_eight hu)
  go_enter Try.func18, Try.ntmps18
  go_wp2
  go_loop [0, 3] (fun x n => ∃ v k : Nat, v < 4294967296 ∧ x = .int .u32 v ∧ n = .int .i64 k ∧ k + need v = need u + 1 ∧ k ≤ 101) (fun x _ => (intOf x).toNat)
  case atStart => exact ⟨u, 1, hu, rfl, rfl, by omega, by omega⟩
  case round =>
    obtain ⟨v, k, hv, rfl, rfl, he, hk⟩ := hrel
    have He := Lib.hid he; clear he
    by_cases hlt : v < 16
    · go_wp2
      go_ret
      exact ⟨ret_int (by have := He.out; rw [need_lt hlt] at this; omega), rfl⟩
    · have hk2 : k ≤ 8 := by have h1 := He.out; have h2 := H.out; have := need_pos v; omega
      go_wp2
      go_round
      case rel => exact ⟨v / 16, k + 1, by omega, by go_num, by go_num, by have := He.out; rw [need_ge (u := v) (by omega)] at this; omega, by omega⟩
      case measure => simp [intOf]; omega

theorem refNeed_any (u : Nat) (w : World) (hu : u < 4294967296) :
    Calls Try.prog 19 #[.int .u32 u] w fun e w' => e = .returned (.int .i64 (need u)) ∧ w = w' := by
  have H := Lib.hid (need_le_eight hu)
  go_enter Try.func19, Try.ntmps19
  go_wp2
  go_loop [0, 3] (fun x n => ∃ v k : Nat, v < 4294967296 ∧ x = .int .u32 v ∧ n = .int .i64 k ∧ k + need v = need u + 1 ∧ k ≤ 101) (fun x _ => (intOf x).toNat)
  case atStart => exact ⟨u, 1, hu, rfl, rfl, by omega, by omega⟩
  case round =>
    obtain ⟨v, k, hv, rfl, rfl, he, hk⟩ := hrel
    have He := Lib.hid he; clear he
    by_cases hlt : v < 16
    · go_wp2
      go_ret
      exact ⟨ret_int (by have := He.out; rw [need_lt hlt] at this; omega), rfl⟩
    · have hk2 : k ≤ 8 := by have h1 := He.out; have h2 := H.out; have := need_pos v; omega
      go_wp2
      go_round
      case rel => exact ⟨v / 16, k + 1, by omega, by go_num, by go_num, by have := He.out; rw [need_ge (u := v) (by omega)] at this; omega, by omega⟩
      case measure => simp [intOf]; omega

theorem back_any (u f : Int) (t : ByteArray) (w : World) :
    Calls Try.prog 14 #[.agg #[.int .u32 u, .int .u8 f, .string t]] w fun e w' => e = .returned (.agg #[.int .u32 u, .int .u8 f, .string t]) ∧ Below w.heap.size w w' := by
  go_enter Try.func14, Try.ntmps14
  go_wp2_with fail
  exact bodyPost_ret (v := .agg #[.int .u32 u, .int .u8 f, .string t]) (by simp [results, Try.results14, go_sem]) rfl ⟨rfl, ((Below.refl _ _).alloc (Nat.le_refl _) _).alloc (by simp) _⟩

theorem own_any (u f : Int) (t : ByteArray) (w : World) :
    Calls Try.prog 40 #[.agg #[.int .u32 u, .int .u8 f, .string t]] w fun e w' => e = .returned (.agg #[.int .u32 u, .int .u8 f, .string t]) ∧ Below w.heap.size w w' := by
  go_enter Try.func40, Try.ntmps40
  go_wp2_with fail
  exact bodyPost_ret (v := .agg #[.int .u32 u, .int .u8 f, .string t]) (by simp [results, Try.results40, go_sem]) rfl ⟨rfl, ((Below.refl _ _).alloc (Nat.le_refl _) _).alloc (by simp) _⟩

theorem dig_eq (u r : Nat) : wrap64 (((u : Int) / 2 ^ (4 * r)).tmod 16) = (dig u r : Int) := by
  have h1 : ((u : Int) / 2 ^ (4 * r)) = ((u / 16 ^ r : Nat) : Int) := by
    rw [Int.natCast_ediv, Int.natCast_pow]
    congr 1
    rw [Int.pow_mul]; rfl
  have h2 := dig_lt u r
  rw [h1, Int.tmod_eq_emod_of_nonneg (Int.natCast_nonneg _)]
  have h3 : ((u / 16 ^ r : Nat) : Int) % 16 = (dig u r : Int) := by unfold dig; omega
  rw [h3]
  unfold wrap64
  omega

theorem digit_any (u r : Nat) (_hu : u < 4294967296) (hr : r < 8) (w : World) :
    Calls Try.prog 42 #[.int .u32 u, .int .i64 r] w fun e w' => e = .returned (.int .i64 (dig u r)) ∧ w = w' := by
  go_enter Try.func42, Try.ntmps42
  go_wp2
  go_ret
  exact ⟨ret_int (dig_eq u r), rfl⟩

theorem dig_succ (u k : Nat) : u / 16 ^ (k + 1) = u / 16 ^ k / 16 := by rw [Nat.pow_succ, Nat.div_div_eq_div_mul]

theorem refDigit_any (u r : Nat) (hu : u < 4294967296) (hr : r < 8) (w : World) :
    Calls Try.prog 63 #[.int .u32 u, .int .i64 r] w fun e w' => e = .returned (.int .i64 (dig u r)) ∧ w = w' := by
  go_enter Try.func63, Try.ntmps63
  go_wp2
  go_loop [0, 5] (fun x n => ∃ v k : Nat, v < 4294967296 ∧ x = .int .u32 v ∧ n = .int .i64 k ∧ v = u / 16 ^ k ∧ k ≤ r) (fun _ x => (r - intOf x).toNat)
  case atStart => exact ⟨u, 0, hu, rfl, rfl, by simp, by omega⟩
  case round =>
    obtain ⟨v, k, hv, rfl, rfl, he, hk⟩ := hrel
    have He := Lib.hid he; clear he
    by_cases hlt : k < r
    · go_wp2
      go_round
      case rel => exact ⟨v / 16, k + 1, by omega, by go_num, by go_num, by rw [dig_succ, He.out], by omega⟩
      case measure => simp [intOf]; omega
    · go_wp2
      go_ret
      exact ⟨ret_int (by obtain rfl : k = r := by omega
                         unfold dig; rw [← He.out]; omega), rfl⟩

/-- a bool, as an ending -/
theorem ret_bool {a b : Bool} (h : a = b) : Ending.returned (.bool a) = .returned (.bool b) := by rw [h]

theorem has_any (u h : Nat) (root : Int) (hu : u < 4294967296) (w : World) :
    Calls Try.prog 41 #[.agg #[.int .i64 root, .int .i64 h], .int .u32 u] w fun e w' => e = .returned (.bool (decide (need u ≤ h))) ∧ Below w.heap.size w w' := by
  go_enter Try.func41, Try.ntmps41
  go_wp2_with fail
  go_quiet ((go_at_call 18; exact Calls.quiet_of_same ((need_any u _ hu).mono fun e w' ⟨h1, h2⟩ => ⟨h1, h2.symm⟩)))
  go_wp2_with fail
  go_ret
  exact ⟨rfl, below_drewN ((Below.refl _ _).alloc (Nat.le_refl _) _) _⟩

set_option maxRecDepth 100000 in
theorem below_any {sv : Value} {st : St} {B : Nat} {Inv : World → Prop} (hs : IsStore sv st B Inv) (slot : Int) (w : World) (hi : Inv w) :
    Calls Try.prog 43 #[sv, .int .i64 slot] w fun e w' => e = .returned (.int .i64 (bel st slot)) ∧ Below w.heap.size w w' := by
  cases hst : st slot with
  | none =>
    have e1 : bel st slot = 0 := by simp [bel, hst]
    have E := Lib.hid e1; clear e1
    go_enter Try.func43, Try.ntmps43
    go_wp2_with (first
      | (refine wpList_at rfl (.tmp 8) (.tmp 9) _ rfl hs slot rfl rfl hi ?_; rw [hst]; intro w1 hb1)
      | (refine wpList_store_new (n := Nd.zero) rfl (.tmp 5) (.tmp 11) rfl _ rfl rfl rfl ?_))
    go_ret
    exact ⟨ret_int E.out.symm, hb1.alloc hb1.size _⟩
  | some n =>
    have e1 : bel st slot = if n.kind = 2 then 1 else n.count := by simp [bel, hst]
    have E := Lib.hid e1; clear e1
    have c0 := n.cells_0
    have c1 := n.cells_1
    by_cases hk : n.kind = 2
    · have hk' : ((n.kind : Int) == 2) = true := by simp [hk]
      have HK := Lib.hid hk; clear hk
      go_enter Try.func43, Try.ntmps43
      go_wp2_with (first
        | (refine wpList_at rfl (.tmp 8) (.tmp 9) _ rfl hs slot rfl rfl hi ?_; rw [hst]; intro w1 hb1)
        | (refine wpList_store_new (n := n) rfl (.tmp 5) (.tmp 11) rfl _ rfl rfl rfl ?_))
      go_ret
      exact ⟨ret_int (by rw [E.out, if_pos HK.out]), hb1.alloc hb1.size _⟩
    · have hk' : ((n.kind : Int) == 2) = false := by simp; omega
      have HK := Lib.hid hk; clear hk
      go_enter Try.func43, Try.ntmps43
      go_wp2_with (first
        | (refine wpList_at rfl (.tmp 8) (.tmp 9) _ rfl hs slot rfl rfl hi ?_; rw [hst]; intro w1 hb1)
        | (refine wpList_store_new (n := n) rfl (.tmp 5) (.tmp 11) rfl _ rfl rfl rfl ?_))
      go_ret
      exact ⟨ret_int (by rw [E.out, if_neg HK.out]), hb1.alloc hb1.size _⟩

set_option maxRecDepth 100000 in
theorem len_any {sv : Value} {st : St} {B : Nat} {Inv : World → Prop} (hs : IsStore sv st B Inv) (root h : Int) (w : World) (hi : Inv w) :
    Calls Try.prog 17 #[.agg #[.int .i64 root, .int .i64 h], sv] w fun e w' => e = .returned (.int .i64 (Nd.of (st root)).count) ∧ Below w.heap.size w w' := by
  have c1 := (Nd.of (st root)).cells_1
  have hi0 : Inv (w.alloc (.cells #[.int .i64 root, .int .i64 h] 28)) := hs.keep _ _ hi ((Below.refl _ _).alloc (Nat.le_refl _) _)
  go_enter Try.func17, Try.ntmps17
  go_wp2_with (first
    | (refine wpList_at rfl (.tmp 8) (.tmp 10) _ rfl hs root rfl rfl hi0 ?_; intro w1 hb1)
    | (refine wpList_store_new (n := Nd.of (st root)) rfl (.tmp 5) (.tmp 12) rfl _ rfl rfl rfl ?_))
  go_ret
  have hb0 : Below w.heap.size w (w.alloc (.cells #[.int .i64 root, .int .i64 h] 28)) := (Below.refl _ _).alloc (Nat.le_refl _) _
  have hb := hb0.trans (hb1.mono (by simp))
  exact ⟨rfl, hb.alloc hb.size _⟩

end Go.Proofs.Ytnekbbmhjbjicaa

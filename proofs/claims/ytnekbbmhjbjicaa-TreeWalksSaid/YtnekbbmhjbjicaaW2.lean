/- Laws of the seat, within a loop over an iterator. -/
import Derived.Test.YtnekbbmhjbjicaaW1
namespace Go.Proofs.Ytnekbbmhjbjicaa
open Go.RowKit

def Wide (F : Fence) : Prop := F = Fence.wide ∨ ∃ l, F = Fence.wide.inRound l
theorem Wide.wide : Wide Fence.wide := .inl rfl
theorem Wide.round (l : Nat) : Wide (Fence.wide.inRound l) := .inr ⟨l, rfl⟩
theorem Wide.fn {F : Fence} (h : Wide F) (f : Nat) : F.fn f := by rcases h with rfl | ⟨l, rfl⟩ <;> trivial
theorem Wide.depth {F : Fence} (h : Wide F) : F.depth = none := by rcases h with rfl | ⟨l, rfl⟩ <;> rfl
theorem Wide.no {F : Fence} (h : Wide F) {n : Nat} : F.depth.isSome = true → 1 ≤ n := fun e => by rw [h.depth] at e; cases e
theorem Wide.steps {F : Fence} (h : Wide F) {m m' : Machine} (hs : Steps Try.prog m m') : StepsIn (Machine.fenced Try.prog F) Try.prog m m' := by
  rcases h with rfl | ⟨l, rfl⟩ <;> exact stepsIn_wide.2 hs

section
variable {ops : Array Oper} {rest : List Oper} {o : Oper} {a : Act} {w : World} {Q : Exit → Act → World → Prop} {F : Fence} {n : Nat}

theorem wpIn_of_wp (hF : Wide F) (hd : ∀ c, o.op ≠ .defer c) {K : Act → World → Prop} (h : o.wp Try.prog a w K Q) : o.wpIn F n Try.prog a w K Q := by
  refine ⟨fun f _ => hF.fn f, ?_⟩
  rw [Oper.semAt_plain F _ _ hd]
  unfold Oper.wp Oper.upon at h
  unfold Oper.uponIn
  generalize (execOp a.eval o).run Try.prog w = r at h
  cases r with
  | ok x w' =>
    cases x with
    | value v => exact h
    | skip => exact h
    | defer d => exact h
    | enter f args => exact ⟨hF.no, calls_in hF h⟩
    | row r args => exact ⟨hF.no, fun c cs _ => by obtain ⟨v, w', r, s⟩ := h c cs; exact ⟨v, w', r, hF.steps s⟩⟩
    | _ => first | exact h | exact h.elim
  | halt x w' => cases x <;> first | exact h | exact h.elim

theorem wpListIn_op (hF : Wide F) (hg : o.guard = none) (hd : ∀ c, o.op ≠ .defer c) (h : ∀ K : Act → World → Prop, (∀ a w, wpListIn F n Try.prog ops Q rest a w → K a w) → o.wp Try.prog a w K Q) : wpListIn F n Try.prog ops Q (o :: rest) a w :=
  wpListIn_plain hg fun K hK => wpIn_of_wp hF hd (h K hK)

theorem wpListIn_at (hF : Wide F) (hg : o.guard = none) (r x : Operand) (tys : Array TypeId) (ho : o.op = .call { callee := .invoke r "At", args := #[x], argTypes := tys }) {sv : Value} {st : St} {B : Nat} {Inv : World → Prop}
    (hs : IsStore sv st B Inv) (slot : Int) (hr : a.eval r = sv) (hx : a.eval x = .int .i64 slot) (hi : Inv w)
    (h : ∀ w', Below w.heap.size w w' → wpListIn F n Try.prog ops Q rest (a.put o.dst (.tuple #[.agg (Nd.of (st slot)).cells, .bool (st slot).isSome])) w') : wpListIn F n Try.prog ops Q (o :: rest) a w :=
  wpListIn_op hF hg (by rw [ho]; intro c e; cases e) fun _ hK => by
    obtain ⟨f, recv, hm, hc⟩ := hs.at_ slot w hi
    unfold Oper.wp execOp
    simp only [ho, resolve, invoke, Sem.run_bind, Sem.run_pure, Result.andThen_ok, List.map_toArray, List.map_cons, List.map_nil, hr, hx]
    have e1 : (#[sv] ++ #[Value.int .i64 slot] : Array Value)[0]? = some sv := rfl
    have e2 : (#[sv] ++ #[Value.int .i64 slot] : Array Value).extract 1 (#[sv] ++ #[Value.int .i64 slot] : Array Value).size = #[Value.int .i64 slot] := by simp
    simp only [e1, e2, hm]
    exact hc.mono fun e w' ⟨he, hb⟩ => by subst he; exact hK _ _ (h w' hb)

theorem wpListIn_store_new {nd : Nd} (hF : Wide F) (hg : o.guard = none) (x y : Operand) (ho : o.op = .store 60 x y) (c : Array Value) (hx : a.eval x = .pointer (some ⟨w.heap.size, 0, none⟩)) (hy : a.eval y = .agg nd.cells) (hc : c.size = 26)
    (h : wpListIn F n Try.prog ops Q rest (a.put o.dst undef) (w.alloc (.cells nd.cells 60))) : wpListIn F n Try.prog ops Q (o :: rest) a (w.alloc (.cells c 60)) :=
  wpListIn_op hF hg (by rw [ho]; intro c e; cases e) fun _ hK => by
    unfold Oper.wp execOp
    simp only [ho, hx, hy, Sem.run_bind, run_storeAt_new (P := Try.prog) w 60 c nd.cells info60 hc nd.cells_one, Result.andThen_ok, Sem.run_pure]
    exact hK _ _ h

theorem wpListIn_load_blk {nd : Nd} {g : Nat} (hF : Wide F) (hg : o.guard = none) (x : Operand) (ho : o.op = .load 60 x) (hx : a.eval x = .pointer (some ⟨g, 0, none⟩)) (hb : Blk w g 60 nd.cells)
    (h : wpListIn F n Try.prog ops Q rest (a.put o.dst (.agg nd.cells)) w) : wpListIn F n Try.prog ops Q (o :: rest) a w := by
  obtain ⟨fs, hfs, hrow⟩ := und60
  exact wpListIn_op hF hg (by rw [ho]; intro c e; cases e) fun _ hK => wp_load_mid 60 x ho g 0 hx nd.cells.toList _ (fun j v hv => by rw [Nat.zero_add, hb.cell]; simpa using hv) hfs hrow (by rw [info60]; rfl) (hK _ _ h)

theorem wpListIn_load_kids {nd : Nd} {g : Nat} {t : TypeId} (hF : Wide F) (hg : o.guard = none) (x : Operand) (ho : o.op = .load 55 x) (hx : a.eval x = .pointer (some ⟨g, 2, none⟩)) (hb : Blk w g t nd.cells)
    (h : wpListIn F n Try.prog ops Q rest (a.put o.dst (.agg nd.kidL.toArray)) w) : wpListIn F n Try.prog ops Q (o :: rest) a w := by
  refine wpListIn_op hF hg (by rw [ho]; intro c e; cases e) fun _ hK => wp_load_mid 55 x ho g 2 hx nd.kidL _ ?_ und55 rfl (by rw [info55]; rfl) (hK _ _ h)
  intro j v hv
  have hj : j < 16 := (List.getElem?_eq_some_iff.1 hv).1
  rw [nd.kidL_get j hj] at hv
  obtain rfl := Option.some.inj hv
  rw [hb.cell]
  exact nd.cells_kid j hj

theorem wpListIn_value (hF : Wide F) (hg : o.guard = none) (hd : ∀ c, o.op ≠ .defer c) (v : Value) (hrun : (execOp a.eval o).run Try.prog w = .ok (.value v) w)
    (h : wpListIn F n Try.prog ops Q rest (a.put o.dst v) w) : wpListIn F n Try.prog ops Q (o :: rest) a w :=
  wpListIn_op hF hg hd fun _ hK => by unfold Oper.wp; rw [hrun]; exact hK _ _ h

theorem pickIn (h : wpListIn F n Try.prog ops Q (o :: rest) a w) : wpListIn F n Try.prog ops Q (o :: rest) a w := h
end
end Go.Proofs.Ytnekbbmhjbjicaa

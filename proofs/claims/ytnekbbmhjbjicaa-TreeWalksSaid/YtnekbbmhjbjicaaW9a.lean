/- A value is what it is: nodes compared with themselves. -/
import Derived.Test.YtnekbbmhjbjicaaP3
import Derived.ChangeKeysEq
namespace Go.Proofs.Ytnekbbmhjbjicaa
open Go.RowKit

/-- compared with itself -/
def Selfs (d : Nat) (t : TypeId) (v : Value) : Prop := ∀ W : World, (Op.equalIn d t v v).run Try.prog W = .ok true W

theorem selfs_int {d t : Nat} {k k' : IntKind} (a : Int) (h : Try.prog.underlying t = some (.int k')) : Selfs (d + 1) t (.int k a) := fun W => by rw [run_equalIn_int W d t k k' a a h]; simp
theorem selfs_str {d t : Nat} (a : ByteArray) (h : Try.prog.underlying t = some .string) : Selfs (d + 1) t (.string a) := fun W => by rw [run_equalIn_string W d t a a h]; simp
theorem selfs_fields {d : Nat} {xs : Array Value} : ∀ (fs : List Field), (∀ f ∈ fs, f.name ≠ "_" → ∃ a, (∀ W : World, (Go.part f.type xs f.offset).run Try.prog W = .ok a W) ∧ Selfs d f.type a) → ∀ W : World, (Op.eqFields d xs xs fs).run Try.prog W = .ok true W
  | [], _, W => by simp [Op.eqFields]
  | f :: fs, h, W => by
    have ih := selfs_fields fs (fun g hg => h g (by simp [hg])) W
    simp only [Op.eqFields, Sem.run_ite]
    split
    · rename_i hn
      obtain ⟨a, h1, h2⟩ := h f (by simp) hn
      simp only [Sem.run_bind, h1 W, Result.andThen_ok, h2 W, Bool.not_true, Bool.false_eq_true, if_false]
      exact ih
    · exact ih
theorem selfs_struct {d t : Nat} {xs : Array Value} (ht : Try.prog.underlying t = some (.struct (Try.prog.fieldsOf t))) (hp : Try.prog.stoodInHeld t = false)
    (h : ∀ f ∈ (Try.prog.fieldsOf t).toList, f.name ≠ "_" → ∃ a, (∀ W : World, (Go.part f.type xs f.offset).run Try.prog W = .ok a W) ∧ Selfs d f.type a) : Selfs (d + 1) t (.agg xs) := fun W => by
  rw [run_equalIn_struct W d t xs xs ht hp]
  exact selfs_fields _ h W
theorem selfs_items {d e c : Nat} {xs : Array Value} : ∀ (is : List Nat), (∀ i ∈ is, ∃ a, (∀ W : World, (Go.part e xs (i * c)).run Try.prog W = .ok a W) ∧ Selfs d e a) → ∀ W : World, (Op.eqItems d e c xs xs is).run Try.prog W = .ok true W
  | [], _, W => by simp [Op.eqItems]
  | i :: is, h, W => by
    have ih := selfs_items is (fun j hj => h j (by simp [hj])) W
    obtain ⟨a, h1, h2⟩ := h i (by simp)
    simp only [Op.eqItems, Sem.run_bind, h1 W, Result.andThen_ok, h2 W, Bool.not_true, Bool.false_eq_true, if_false]
    exact ih

theorem list_mem {α β : Type} {l : List α} {g : α → β} {m : List β} (h : l.map g = m) {x : α} (hx : x ∈ l) : g x ∈ m := by rw [← h]; exact List.mem_map_of_mem hx

theorem f33 : (Try.prog.fieldsOf 33).toList.map (fun f => (Try.prog.underlying f.type, f.offset)) = [(some (.int .u32), 0), (some (.int .u8), 1), (some .string, 2)] := by kernel_rfl
theorem f60 : (Try.prog.fieldsOf 60).toList.map (fun f => (f.type, f.offset)) = [(5, 0), (3, 1), (55, 2), (33, 18), (58, 21)] := by kernel_rfl
theorem f58 : (Try.prog.fieldsOf 58).toList.map (fun f => (Try.prog.underlying f.type, f.offset)) = [(some (.int .i64), 0), (some (.int .i64), 1), (some (.int .u32), 2), (some (.int .u32), 3), (some (.int .u64), 4)] := by kernel_rfl
theorem part_int {e off : Nat} {k : IntKind} {xs : Array Value} {v : Value} (hu : Try.prog.underlying e = some (.int k)) (hx : xs[off]? = some v) (W : World) : (Go.part e xs off).run Try.prog W = .ok v W := by simp [Go.part, isAgg, run_underlying hu, hx]
theorem part_str {e off : Nat} {xs : Array Value} {v : Value} (hu : Try.prog.underlying e = some .string) (hx : xs[off]? = some v) (W : World) : (Go.part e xs off).run Try.prog W = .ok v W := by simp [Go.part, isAgg, run_underlying hu, hx]
theorem p60_0 (n : Nd) (W : World) : (Go.part 5 n.cells 0).run Try.prog W = .ok (.int .u8 n.kind) W := by kernel_rfl
theorem p60_1 (n : Nd) (W : World) : (Go.part 3 n.cells 1).run Try.prog W = .ok (.int .i64 n.count) W := by kernel_rfl
theorem p60_2 (n : Nd) (W : World) : (Go.part 55 n.cells 2).run Try.prog W = .ok (.agg n.kidL.toArray) W := by kernel_rfl
theorem p60_3 (n : Nd) (W : World) : (Go.part 33 n.cells 18).run Try.prog W = .ok (.agg #[.int .u32 n.rc.uid, .int .u8 n.rc.fl, .string n.rc.txt]) W := by kernel_rfl
theorem p60_4 (n : Nd) (W : World) : (Go.part 58 n.cells 21).run Try.prog W = .ok (.agg #[.int .i64 0, .int .i64 0, .int .u32 0, .int .u32 0, .int .u64 0]) W := by kernel_rfl

theorem selfs33 {d : Nat} (u f : Int) (t : ByteArray) : Selfs (d + 1 + 1) 33 (.agg #[.int .u32 u, .int .u8 f, .string t]) := by
  refine selfs_struct (by kernel_rfl) (by kernel_rfl) fun g hg _ => ?_
  have hm := list_mem f33 hg
  simp only [List.mem_cons, Prod.mk.injEq, List.not_mem_nil, or_false] at hm
  rcases hm with ⟨h1, h2⟩ | ⟨h1, h2⟩ | ⟨h1, h2⟩
  · exact ⟨_, part_int h1 (by rw [h2]; rfl), selfs_int _ h1⟩
  · exact ⟨_, part_int h1 (by rw [h2]; rfl), selfs_int _ h1⟩
  · exact ⟨_, part_str h1 (by rw [h2]; rfl), selfs_str _ h1⟩
theorem selfs58 {d : Nat} (a b x y z : Int) : Selfs (d + 1 + 1) 58 (.agg #[.int .i64 a, .int .i64 b, .int .u32 x, .int .u32 y, .int .u64 z]) := by
  refine selfs_struct (by kernel_rfl) (by kernel_rfl) fun g hg _ => ?_
  have hm := list_mem f58 hg
  simp only [List.mem_cons, Prod.mk.injEq, List.not_mem_nil, or_false] at hm
  rcases hm with ⟨h1, h2⟩ | ⟨h1, h2⟩ | ⟨h1, h2⟩ | ⟨h1, h2⟩ | ⟨h1, h2⟩ <;> exact ⟨_, part_int h1 (by rw [h2]; rfl), selfs_int _ h1⟩
theorem info3 : ∃ i, Try.prog.info? 3 = some i := by
  cases h : Try.prog.info? 3 with
  | none => exact absurd (show (Try.prog.info? 3).isSome = true from by kernel_rfl) (by rw [h]; simp)
  | some i => exact ⟨i, rfl⟩
theorem cells3 : Try.prog.cellsOf 3 = 1 := by kernel_rfl
theorem und3 : Try.prog.underlying 3 = some (.int .i64) := by kernel_rfl
theorem und5 : Try.prog.underlying 5 = some (.int .u8) := by kernel_rfl
theorem selfs55 {d : Nat} (n : Nd) : Selfs (d + 1 + 1) 55 (.agg n.kidL.toArray) := fun W => by
  obtain ⟨i, hi⟩ := info3
  rw [run_equalIn_array W (d + 1) n.kidL.toArray n.kidL.toArray und55 hi, cells3]
  refine selfs_items _ (fun j hj => ?_) W
  have hj' : j < 16 := List.mem_range.1 hj
  refine ⟨.int .i64 (n.kids j), part_int und3 ?_, selfs_int _ und3⟩
  rw [Nat.mul_one]
  simpa using n.kidL_get j hj'
theorem selfs60 {d : Nat} (n : Nd) : Selfs (d + 1 + 1 + 1) 60 (.agg n.cells) := by
  refine selfs_struct (by kernel_rfl) (by kernel_rfl) fun g hg _ => ?_
  have hm := list_mem f60 hg
  simp only [List.mem_cons, Prod.mk.injEq, List.not_mem_nil, or_false] at hm
  rcases hm with ⟨h1, h2⟩ | ⟨h1, h2⟩ | ⟨h1, h2⟩ | ⟨h1, h2⟩ | ⟨h1, h2⟩ <;> rw [h1, h2]
  · exact ⟨_, p60_0 n, selfs_int _ und5⟩
  · exact ⟨_, p60_1 n, selfs_int _ und3⟩
  · exact ⟨_, p60_2 n, selfs55 n⟩
  · exact ⟨_, p60_3 n, selfs33 _ _ _⟩
  · exact ⟨_, p60_4 n, selfs58 _ _ _ _ _⟩
theorem neq60 (n : Nd) (W : World) : (binOp .neq 60 (.agg n.cells) (.agg n.cells)).run Try.prog W = .ok (.bool false) W := by
  rw [run_neq_struct, selfs60 (d := 9997) n W]; rfl
end Go.Proofs.Ytnekbbmhjbjicaa
namespace Go.Proofs.Ytnekbbmhjbjicaa
open Go.RowKit
theorem wq_want {ops : Array Oper} {o : Oper} {rest : List Oper} {a : Act} {C : World → Prop} {Q : Act → Prop} (hw : Region.wanted o (yielded ops a.tmps) = true) (v : Value)
    (hrun : ∀ W, C W → (execOp a.eval o).run Try.prog W = .ok (.value v) W) (h : wpQuiet Try.prog ops C Q rest (a.put o.dst v)) : wpQuiet Try.prog ops C Q (o :: rest) a := by
  refine wpQuiet_step fun K hK => ?_
  rw [if_pos hw]
  exact ⟨v, fun W hW => by unfold Oper.quietAt; rw [hrun W hW]; exact ⟨rfl, rfl⟩, hK _ h⟩
theorem run_load_nd {o : Oper} {a : Act} {W : World} {n : Nd} {g off : Nat} (x : Operand) (ho : o.op = .load 60 x) (hx : a.eval x = .pointer (some ⟨g, off, none⟩)) (hb : ∀ j c, n.cells[j]? = some c → W.cell? ⟨g, off + j, none⟩ = some c) :
    (execOp a.eval o).run Try.prog W = .ok (.value (.agg n.cells)) W := by
  obtain ⟨fs, hfs, hrow⟩ := und60
  unfold execOp
  simp only [ho, hx, Instr.loadAt, Instr.sureAddr, Sem.run_bind, Sem.run_pure, Result.andThen_ok, run_loadVar_mid W g off 60 n.cells.toList _ (fun j v hv => hb j v (by simpa using hv)) hfs hrow (by rw [info60]; rfl)]
end Go.Proofs.Ytnekbbmhjbjicaa
namespace Go.Proofs.Ytnekbbmhjbjicaa
open Go.RowKit
theorem guard60 : Try.prog.eqGuardType Try.prog.depth 60 = false := by kernel_rfl
theorem run_neq_nd {o : Oper} {a : Act} {W : World} {n : Nd} (x y : Operand) (ho : o.op = .binOp .neq 60 x y 60) (hx : a.eval x = .agg n.cells) (hy : a.eval y = .agg n.cells) : (execOp a.eval o).run Try.prog W = .ok (.value (.bool false)) W := by
  unfold execOp
  simp only [ho, hx, hy, Sem.run_bind, Sem.run_pure, Result.andThen_ok, run_eqGuard_agg W .neq 60 x y n.cells n.cells guard60, neq60]
end Go.Proofs.Ytnekbbmhjbjicaa
namespace Go.Proofs.Ytnekbbmhjbjicaa
open Go.RowKit
theorem wq_back {ops : Array Oper} {o : Oper} {rest : List Oper} {a : Act} {C : World → Prop} {Q : Act → Prop} {u f : Int} {t : ByteArray} (hC : ∀ W W', C W → Below W.heap.size W W' → C W') (x : Operand) (tys : Array TypeId)
    (ho : o.op = .call { callee := .value (.func 14), args := #[x], argTypes := tys }) (hw : Region.wanted o (yielded ops a.tmps) = true) (hx : a.eval x = .agg #[.int .u32 u, .int .u8 f, .string t])
    (h : wpQuiet Try.prog ops C Q rest (a.put o.dst (.agg #[.int .u32 u, .int .u8 f, .string t]))) : wpQuiet Try.prog ops C Q (o :: rest) a := by
  refine wpQuiet_step fun K hK => ?_
  rw [if_pos hw]
  have e := Go.Proofs.enters_of Try.func14 (by kernel_rfl) rfl
  have hf : a.eval (.func 14) = .func (.func 14) #[] #[] := rfl
  refine ⟨.agg #[.int .u32 u, .int .u8 f, .string t], fun W hW => ?_, hK _ h⟩
  unfold Oper.quietAt execOp
  simp only [ho, resolve, invoke, Sem.run_bind, List.map_toArray, List.map_cons, List.map_nil, hx, hf, Deferred.ofValue, Sem.run_pure, Result.andThen_ok, e _ _]
  exact ⟨rfl, (back_any u f t W).mono fun e w' ⟨he, hb⟩ => ⟨he, hC W w' hW hb⟩⟩
theorem run_ld3 {o : Oper} {a : Act} {W : World} {b : Nat} {k : Int} (x : Operand) (ho : o.op = .load 3 x) (hx : a.eval x = .pointer (some ⟨b, 0, none⟩)) (c0 : W.cell? ⟨b, 0, none⟩ = some (.int .i64 k)) : (execOp a.eval o).run Try.prog W = .ok (.value (.int .i64 k)) W := by
  unfold execOp; rw [ho]; simp only [hx]; simp [go_sem, c0]
theorem run_ld22 {o : Oper} {a : Act} {W : World} {b n c : Nat} {V : Option Addr} (x : Operand) (ho : o.op = .load 22 x) (hx : a.eval x = .pointer (some ⟨b, 0, none⟩)) (c0 : W.cell? ⟨b, 0, none⟩ = some (.slice V n c)) : (execOp a.eval o).run Try.prog W = .ok (.value (.slice V n c)) W := by
  unfold execOp; rw [ho]; simp only [hx]; simp [go_sem, c0]
theorem run_ld3x {ty : TypeId} (hty : ty = 33 ∨ ty = 37) {o : Oper} {a : Act} {W : World} {g off : Nat} {u f : Int} {t : ByteArray} (x : Operand) (ho : o.op = .load ty x) (hx : a.eval x = .pointer (some ⟨g, off, none⟩))
    (c0 : W.cell? ⟨g, off, none⟩ = some (.int .u32 u)) (c1 : W.cell? ⟨g, off + 1, none⟩ = some (.int .u8 f)) (c2 : W.cell? ⟨g, off + 2, none⟩ = some (.string t)) : (execOp a.eval o).run Try.prog W = .ok (.value (.agg #[.int .u32 u, .int .u8 f, .string t])) W := by
  unfold execOp; rw [ho]; simp only [hx]
  rcases hty with rfl | rfl <;> simp [go_sem, c0, c1, c2]
end Go.Proofs.Ytnekbbmhjbjicaa
namespace Go.Proofs.Ytnekbbmhjbjicaa
open Go.RowKit
theorem run_len22 {o : Oper} {a : Act} {W : World} {n c : Nat} {V : Option Addr} (x : Operand) (ho : o.op = .call { callee := .builtin .len, args := #[x], argTypes := #[22] }) (hx : a.eval x = .slice V n c) : (execOp a.eval o).run Try.prog W = .ok (.value (.int .i64 n)) W := by
  unfold execOp
  simp only [ho, resolve, invoke, builtin, Sem.run_bind, Sem.run_pure, Result.andThen_ok, List.map_toArray, List.map_cons, List.map_nil, hx]
  simp [go_sem]
end Go.Proofs.Ytnekbbmhjbjicaa

/- The reference's nodes; laws for append on a row of the call's own, for literals. -/
import Derived.Test.YtnekbbmhjbjicaaA6
import Derived.Maps.AppendAt
import Derived.Deep.AppendLies
namespace Go.Proofs.Ytnekbbmhjbjicaa
open Go.RowKit

/-- a slice type, its element type, that one's cells and bytes -/
def ElemT (t e size bytes : Nat) : Prop :=
  Try.prog.underlying t = some (.slice e) ∧ 0 < size ∧ ∃ i z, Try.prog.info? e = some i ∧ i.zero = some z ∧ i.size = size ∧ i.bytes = bytes ∧ z.cells.size = size

theorem ElemT.of {t e size bytes : Nat} (h1 : Try.prog.underlying t = some (.slice e)) (h2 : 0 < size)
    (h3 : (Try.prog.info? e).map (fun i => (i.zero.map (·.cells.size), i.size, i.bytes)) = some (some size, size, bytes)) : ElemT t e size bytes := by
  refine ⟨h1, h2, ?_⟩
  cases hi : Try.prog.info? e with
  | none => rw [hi] at h3; cases h3
  | some i =>
    rw [hi] at h3
    simp only [Option.map_some, Option.some.injEq, Prod.mk.injEq, Option.map_eq_some_iff] at h3
    obtain ⟨⟨z, hz, hzs⟩, hs, hb⟩ := h3
    exact ⟨i, z, rfl, hz, hs, hb, hzs⟩

theorem elem101 : ElemT 97 101 21 168 := ElemT.of (by kernel_rfl) (by decide) (by kernel_rfl)
theorem elem60 : ElemT 26 60 26 200 := ElemT.of (by kernel_rfl) (by decide) (by kernel_rfl)
theorem elem37 : ElemT 22 37 3 24 := ElemT.of (by kernel_rfl) (by decide) (by kernel_rfl)

/-- a slice's block -/
def ob (V : Option Addr) : Option Nat := V.map (·.block)
theorem ob_slice (V : Option Addr) (n c : Nat) : (Value.slice V n c).ownBlock = ob V := by cases V <;> rfl
theorem own_form {w : World} {base e size n : Nat} {v : Value} {xs : List Value} (h : w.ownsRow base e size v n xs) : ∃ V c, v = .slice V n c := by
  rcases h.2 with ⟨rfl, rfl⟩ | ⟨g, cap, cur, rfl, _⟩
  · exact ⟨none, 0, rfl⟩
  · exact ⟨_, _, rfl⟩

section
variable {ops : Array Oper} {rest : List Oper} {o : Oper} {a : Act} {w : World} {Q : Exit → Act → World → Prop}

/-- an operation whose value is known, and that leaves the world alone -/
theorem wpList_value (hg : o.guard = none) (v : Value) (hrun : (execOp a.eval o).run Try.prog w = .ok (.value v) w)
    (h : wpList Try.prog ops Q rest (a.put o.dst v) w) : wpList Try.prog ops Q (o :: rest) a w :=
  wpList_plain hg fun _ hK => by unfold Oper.wp; rw [hrun]; exact hK _ _ h

/-- append of the elements of a block that was just made -/
theorem wpList_app {t e size bytes : Nat} (H : ElemT t e size bytes) {cs : Array Value} {m c : Nat} (hg : o.guard = none) (s x : Operand) (ho : o.op = .call { callee := .builtin .append, args := #[s, x], argTypes := #[t, t] })
    (base : Nat) (V : Option Addr) (n vc : Nat) (xs : List Value) (hs : a.eval s = .slice V n vc) (hown : w.ownsRow base e size (.slice V n vc) n xs)
    (hx : a.eval x = .slice (some ⟨w.heap.size, 0, none⟩) m c) (hl : cs.size = m * size) (h1 : cs.all (·.oneCell') = true)
    (hm : n + m ≤ 1000000) (hb : bytes ≤ 1000000) (hbase : base ≤ w.heap.size)
    (h : ∀ V' c' w', w'.ownsRow base e size (.slice V' (n + m) c') (n + m) (xs ++ cs.toList) → w.grownBy w' (ob V) → (∀ g, ob V' = some g → ob V = some g ∨ w.heap.size ≤ g) →
      wpList Try.prog ops Q rest (a.put o.dst (.slice V' (n + m) c')) w') : wpList Try.prog ops Q (o :: rest) a (w.alloc (.cells cs e)) := by
  obtain ⟨hu, hpos, i, z, hi, hz, hsz, hby, hzs⟩ := H
  refine wpList_plain hg fun _ hK => ?_
  have hbytes : (n + m) * bytes ≤ 140737488355328 := by
    have := Nat.mul_le_mul hm hb
    omega
  obtain ⟨v', w', hrun, h2, h3, _, h5⟩ := run_append_own_at (P := Try.prog) (w.alloc (.cells cs e)) base t o.type e i z size bytes hu hi hz hsz hby hzs hpos _ n xs (hown.alloc _)
    ⟨w.heap.size, 0, none⟩ m c cs.toList (by simpa using hl) (World.news_of_block (heap_alloc_new w _)) (fun u hu => Array.all_eq_true_iff_forall_mem.1 h1 u (by simpa using hu))
    (by unfold maxLen; omega) hbytes (by simp; omega)
  unfold Oper.wp execOp
  simp only [ho, resolve, invoke, builtin, Sem.run_bind, Sem.run_pure, Result.andThen_ok, List.map_toArray, List.map_cons, List.map_nil, hs, hx, hrun]
  obtain ⟨V', c', rfl⟩ := own_form h2
  rw [ob_slice] at h3 h5
  rw [ob_slice] at h5
  refine hK _ _ (h V' c' w' h2 ⟨h3.os, h3.tape, h3.output, ?_, fun k hk hne => ?_⟩ ?_)
  · have := h3.size; simp at this; omega
  · exact (h3.block k (by simp; omega) hne).trans (Below.heap_alloc w _ k hk)
  · intro g hgv
    rcases h5 with h5 | h5
    · exact .inl (h5 ▸ hgv)
    · rw [h5] at hgv
      injection hgv with hgv
      right
      simp at hgv
      omega
end

theorem grown_trans {a b c : World} {r r1 : Option Nat} (h : a.grownBy b r) (k : b.grownBy c r1) (hr : ∀ g, r1 = some g → r = some g ∨ a.heap.size ≤ g) : a.grownBy c r :=
  ⟨k.os.trans h.os, k.tape.trans h.tape, k.output.trans h.output, Nat.le_trans h.size k.size, fun i hi hne => by
    refine (k.block i (Nat.lt_of_lt_of_le hi h.size) (fun e => ?_)).trans (h.block i hi hne)
    rcases hr i e.symm with h1 | h1
    · exact hne h1.symm
    · omega⟩
theorem grown_of_below {a b : World} (h : Below a.heap.size a b) (r : Option Nat) : a.grownBy b r := ⟨h.os, h.tape, h.output, h.size, fun i hi _ => h.block i hi⟩
theorem grown_set {a b : World} {r : Option Nat} (h : a.grownBy b r) {p : Addr} (hp : r = some p.block ∨ a.heap.size ≤ p.block) (u : Value) : a.grownBy (b.setCell p u) r :=
  ⟨h.os, h.tape, h.output, by simpa [World.setCell] using h.size, fun i hi hne => (Below.heap_setCell b p u i (fun e => by
    subst e
    rcases hp with hp | hp
    · exact hne hp.symm
    · omega)).trans (h.block i hi hne)⟩
theorem below_of_grown {a b : World} {r : Option Nat} {B : Nat} (h : a.grownBy b r) (hB : B ≤ a.heap.size) (hr : ∀ g, r = some g → B ≤ g) : Below B a b :=
  (Below.refl B a).grown h hB hr

/-- a node of the reference -/
structure Rn where
  leaf : Bool
  count : Nat
  kids : Nat → Int
  rc : Rc

def Rn.cells (n : Rn) : Array Value :=
  #[.bool n.leaf, .int .i64 n.count,
    .int .i64 (n.kids 0), .int .i64 (n.kids 1), .int .i64 (n.kids 2), .int .i64 (n.kids 3),
    .int .i64 (n.kids 4), .int .i64 (n.kids 5), .int .i64 (n.kids 6), .int .i64 (n.kids 7),
    .int .i64 (n.kids 8), .int .i64 (n.kids 9), .int .i64 (n.kids 10), .int .i64 (n.kids 11),
    .int .i64 (n.kids 12), .int .i64 (n.kids 13), .int .i64 (n.kids 14), .int .i64 (n.kids 15),
    .int .u32 n.rc.uid, .int .u8 n.rc.fl, .string n.rc.txt]

def Rn.leafOf (r : Rc) : Rn := ⟨true, 0, fun _ => 0, r⟩
theorem Rn.cells_one (n : Rn) : n.cells.all (·.oneCell') = true := by simp [Rn.cells, Value.oneCell']
theorem Rn.cells_0 (n : Rn) : n.cells[0]? = some (.bool n.leaf) := rfl
theorem Rn.cells_1 (n : Rn) : n.cells[1]? = some (.int .i64 n.count) := rfl
theorem Rn.cells_18 (n : Rn) : n.cells[18]? = some (.int .u32 n.rc.uid) := rfl
theorem Rn.cells_19 (n : Rn) : n.cells[19]? = some (.int .u8 n.rc.fl) := rfl
theorem Rn.cells_20 (n : Rn) : n.cells[20]? = some (.string n.rc.txt) := rfl
theorem Rn.cells_kid (n : Rn) : ∀ d : Nat, d < 16 → n.cells[2 + d]? = some (.int .i64 (n.kids d))
  | 0, _ => rfl | 1, _ => rfl | 2, _ => rfl | 3, _ => rfl | 4, _ => rfl | 5, _ => rfl | 6, _ => rfl | 7, _ => rfl
  | 8, _ => rfl | 9, _ => rfl | 10, _ => rfl | 11, _ => rfl | 12, _ => rfl | 13, _ => rfl | 14, _ => rfl | 15, _ => rfl
  | n + 16, h => by omega

/-- one slot written -/
def Rn.setKid (n : Rn) (d : Nat) (x : Int) : Rn := { n with kids := fun k => if k = d then x else n.kids k }
theorem Rn.cells_setKid (n : Rn) (x : Int) : ∀ d : Nat, d < 16 → n.cells.setIfInBounds (2 + d) (.int .i64 x) = (n.setKid d x).cells
  | 0, _ => rfl | 1, _ => rfl | 2, _ => rfl | 3, _ => rfl | 4, _ => rfl | 5, _ => rfl | 6, _ => rfl | 7, _ => rfl
  | 8, _ => rfl | 9, _ => rfl | 10, _ => rfl | 11, _ => rfl | 12, _ => rfl | 13, _ => rfl | 14, _ => rfl | 15, _ => rfl
  | n + 16, h => by omega
def Nd.setKid (n : Nd) (d : Nat) (x : Int) : Nd := { n with kids := fun k => if k = d then x else n.kids k }
theorem Nd.cells_setKid (n : Nd) (x : Int) : ∀ d : Nat, d < 16 → n.cells.setIfInBounds (2 + d) (.int .i64 x) = (n.setKid d x).cells
  | 0, _ => rfl | 1, _ => rfl | 2, _ => rfl | 3, _ => rfl | 4, _ => rfl | 5, _ => rfl | 6, _ => rfl | 7, _ => rfl
  | 8, _ => rfl | 9, _ => rfl | 10, _ => rfl | 11, _ => rfl | 12, _ => rfl | 13, _ => rfl | 14, _ => rfl | 15, _ => rfl
  | n + 16, h => by omega

/-- []Node{n}: both kinds of nodes, and messages -/
theorem run_one101 (n : Rn) (w : World) : (Instr.buildSlice 97 1 #[(0, .agg n.cells)]).run Try.prog w = .ok (.slice (some ⟨w.heap.size, 0, none⟩) 1 1) (w.alloc (.cells n.cells 101)) := by kernel_rfl
theorem run_one60 (n : Nd) (w : World) : (Instr.buildSlice 26 1 #[(0, .agg n.cells)]).run Try.prog w = .ok (.slice (some ⟨w.heap.size, 0, none⟩) 1 1) (w.alloc (.cells n.cells 60)) := by kernel_rfl

section
variable {ops : Array Oper} {rest : List Oper} {o : Oper} {a : Act} {w : World} {Q : Exit → Act → World → Prop}
theorem wpList_one101 {n : Rn} (hg : o.guard = none) (x : Operand) (ho : o.op = .buildSlice 97 1 #[(0, x)]) (hx : a.eval x = .agg n.cells)
    (h : wpList Try.prog ops Q rest (a.put o.dst (.slice (some ⟨w.heap.size, 0, none⟩) 1 1)) (w.alloc (.cells n.cells 101))) : wpList Try.prog ops Q (o :: rest) a w :=
  wpList_plain hg fun _ hK => by
    unfold Oper.wp execOp
    simp only [ho, hx, List.map_toArray, List.map_cons, List.map_nil, Sem.run_bind, run_one101, Result.andThen_ok, Sem.run_pure]
    exact hK _ _ h
theorem wpList_one60 {n : Nd} (hg : o.guard = none) (x : Operand) (ho : o.op = .buildSlice 26 1 #[(0, x)]) (hx : a.eval x = .agg n.cells)
    (h : wpList Try.prog ops Q rest (a.put o.dst (.slice (some ⟨w.heap.size, 0, none⟩) 1 1)) (w.alloc (.cells n.cells 60))) : wpList Try.prog ops Q (o :: rest) a w :=
  wpList_plain hg fun _ hK => by
    unfold Oper.wp execOp
    simp only [ho, hx, List.map_toArray, List.map_cons, List.map_nil, Sem.run_bind, run_one60, Result.andThen_ok, Sem.run_pure]
    exact hK _ _ h
end

end Go.Proofs.Ytnekbbmhjbjicaa

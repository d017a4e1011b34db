/- Laws for append on a row of the call's own; a feed takes bytes. -/
import Derived.Test.YtmgifbibhodbbaaDoorF8
import Derived.Maps.AppendAt
import Derived.Deep.AppendLies
namespace Go.Proofs.YtmgifbibhodbbaaDoor
open Go.RowKit

/-- a slice type, its element type, that one's cells and bytes -/
def ElemT (t e size bytes : Nat) : Prop :=
  Tryd.prog.underlying t = some (.slice e) ∧ 0 < size ∧ ∃ i z, Tryd.prog.info? e = some i ∧ i.zero = some z ∧ i.size = size ∧ i.bytes = bytes ∧ z.cells.size = size

theorem ElemT.of {t e size bytes : Nat} (h1 : Tryd.prog.underlying t = some (.slice e)) (h2 : 0 < size)
    (h3 : (Tryd.prog.info? e).map (fun i => (i.zero.map (·.cells.size), i.size, i.bytes)) = some (some size, size, bytes)) : ElemT t e size bytes := by
  refine ⟨h1, h2, ?_⟩
  cases hi : Tryd.prog.info? e with
  | none => rw [hi] at h3; cases h3
  | some i =>
    rw [hi] at h3
    simp only [Option.map_some, Option.some.injEq, Prod.mk.injEq, Option.map_eq_some_iff] at h3
    obtain ⟨⟨z, hz, hzs⟩, hs, hb⟩ := h3
    exact ⟨i, z, rfl, hz, hs, hb, hzs⟩

theorem elem70 : ElemT 43 70 2 24 := ElemT.of (by kernel_rfl) (by decide) (by kernel_rfl)

/-- a slice's block -/
def ob (V : Option Addr) : Option Nat := V.map (·.block)
theorem ob_slice (V : Option Addr) (n c : Nat) : (Value.slice V n c).ownBlock = ob V := by cases V <;> rfl
theorem own_form {w : World} {base e size n : Nat} {v : Value} {xs : List Value} (h : w.ownsRow base e size v n xs) : ∃ V c, v = .slice V n c := by
  rcases h.2 with ⟨rfl, rfl⟩ | ⟨g, cap, cur, rfl, _⟩
  · exact ⟨none, 0, rfl⟩
  · exact ⟨_, _, rfl⟩

section
variable {ops : Array Oper} {rest : List Oper} {o : Oper} {a : Act} {w : World} {Q : Exit → Act → World → Prop}

/-- an operation whose value is known, and that leaves the world alone -/
theorem wpList_value (hg : o.guard = none) (v : Value) (hrun : (execOp a.eval o).run Tryd.prog w = .ok (.value v) w)
    (h : wpList Tryd.prog ops Q rest (a.put o.dst v) w) : wpList Tryd.prog ops Q (o :: rest) a w :=
  wpList_plain hg fun _ hK => by unfold Oper.wp; rw [hrun]; exact hK _ _ h

/-- append of the elements of a block that was just made -/
theorem wpList_app {t e size bytes : Nat} (H : ElemT t e size bytes) {cs : Array Value} {m c : Nat} (hg : o.guard = none) (s x : Operand) (ho : o.op = .call { callee := .builtin .append, args := #[s, x], argTypes := #[t, t] })
    (base : Nat) (V : Option Addr) (n vc : Nat) (xs : List Value) (hs : a.eval s = .slice V n vc) (hown : w.ownsRow base e size (.slice V n vc) n xs)
    (hx : a.eval x = .slice (some ⟨w.heap.size, 0, none⟩) m c) (hl : cs.size = m * size) (h1 : cs.all (·.oneCell') = true)
    (hm : n + m ≤ 1000000) (hb : bytes ≤ 1000000) (hbase : base ≤ w.heap.size)
    (h : ∀ V' c' w', w'.ownsRow base e size (.slice V' (n + m) c') (n + m) (xs ++ cs.toList) → w.grownBy w' (ob V) → (∀ g, ob V' = some g → ob V = some g ∨ w.heap.size ≤ g) →
      wpList Tryd.prog ops Q rest (a.put o.dst (.slice V' (n + m) c')) w') : wpList Tryd.prog ops Q (o :: rest) a (w.alloc (.cells cs e)) := by
  obtain ⟨hu, hpos, i, z, hi, hz, hsz, hby, hzs⟩ := H
  refine wpList_plain hg fun _ hK => ?_
  have hbytes : (n + m) * bytes ≤ 140737488355328 := by
    have := Nat.mul_le_mul hm hb
    omega
  obtain ⟨v', w', hrun, h2, h3, _, h5⟩ := run_append_own_at (P := Tryd.prog) (w.alloc (.cells cs e)) base t o.type e i z size bytes hu hi hz hsz hby hzs hpos _ n xs (hown.alloc _)
    ⟨w.heap.size, 0, none⟩ m c cs.toList (by simpa using hl) (World.news_of_block (heap_alloc_new w _)) (fun u hu => Array.all_eq_true_iff_forall_mem.1 h1 u (by simpa using hu))
    (by unfold maxLen; omega) hbytes (by simp; omega)
  unfold Oper.wp execOp
  simp only [ho, resolve, invoke, builtin, Sem.run_bind, Sem.run_pure, Result.andThen_ok, List.map_toArray, List.map_cons, List.map_nil, hs, hx, hrun]
  obtain ⟨V', c', rfl⟩ := own_form h2
  rw [ob_slice] at h3 h5
  rw [ob_slice] at h5
  refine hK _ _ (h V' c' w' h2 ⟨h3.os, h3.tape, h3.output, ?_, fun k hk hne => ?_⟩ ?_)
  · have := h3.size; simp at this; omega
  · exact (h3.block k (by simp; omega) hne).trans (Below.heap_alloc w _ k hk)
  · intro g hgv
    rcases h5 with h5 | h5
    · exact .inl (h5 ▸ hgv)
    · rw [h5] at hgv
      injection hgv with hgv
      right
      simp at hgv
      omega
end

end Go.Proofs.YtmgifbibhodbbaaDoor

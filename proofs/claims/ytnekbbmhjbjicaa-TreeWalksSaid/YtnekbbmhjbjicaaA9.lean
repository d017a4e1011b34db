/- Rows of the call's own: an element stored anew; what they read as. -/
import Derived.Test.YtnekbbmhjbjicaaA8
namespace Go.Proofs.Ytnekbbmhjbjicaa
open Go.RowKit

theorem own_some {w : World} {base e size n : Nat} {V : Option Addr} {c : Nat} {xs : List Value} (h : w.ownsRow base e size (.slice V n c) n xs) (hn : 0 < n) :
    ∃ g, V = some ⟨g, 0, none⟩ ∧ base ≤ g ∧ g < w.heap.size ∧ ∃ cur, w.heap[g]? = some (.cells cur e (0, 0)) ∧ n ≤ c ∧ c ≤ maxLen ∧ cur.size = c * size ∧ cur.toList.take (n * size) = xs := by
  rcases h.2 with ⟨h1, h2⟩ | ⟨g, cap, cur, hv, hb, hh, h1, h2, h3, h4⟩
  · omega
  · injection hv with hv1 hv2 hv3
    subst hv1; subst hv3
    exact ⟨g, rfl, hb, (Array.getElem?_eq_some_iff.1 hh).1, cur, hh, h1, h2, h3, h4⟩

theorem own_ob {w : World} {base e size n : Nat} {V : Option Addr} {c : Nat} {xs : List Value} (h : w.ownsRow base e size (.slice V n c) n xs) : ∀ g, ob V = some g → base ≤ g ∧ g < w.heap.size := by
  intro g hg
  have := h.lt g (by rw [ob_slice]; exact hg)
  exact this

/-- a row stays while other blocks turn -/
theorem own_kept {w w' : World} {r : Option Nat} {base e size n : Nat} {V : Option Addr} {c : Nat} {xs : List Value} (h : w.ownsRow base e size (.slice V n c) n xs) (hg : w.grownBy w' r) (hne : ob V = none ∨ ob V ≠ r) :
    w'.ownsRow base e size (.slice V n c) n xs := h.kept hg (by rw [ob_slice]; exact hne)

theorem own_setCells {base e size n c g : Nat} : ∀ (vs old : List Value) (xs ys : List Value) (w : World), old.length = vs.length → w.ownsRow base e size (.slice (some ⟨g, 0, none⟩) n c) n (xs ++ old ++ ys) →
    (w.setCells g xs.length vs).ownsRow base e size (.slice (some ⟨g, 0, none⟩) n c) n (xs ++ vs ++ ys) ∧ w.grownBy (w.setCells g xs.length vs) (some g)
  | [], old, xs, ys, w, hl, h => by
    obtain rfl : old = [] := List.eq_nil_of_length_eq_zero hl
    exact ⟨h, World.grownBy.refl w _⟩
  | v :: vs, x :: old, xs, ys, w, hl, h => by
    obtain ⟨h1, h2⟩ := h.stored xs.length v
    have e1 : (xs ++ x :: old ++ ys).set xs.length v = (xs ++ [v]) ++ old ++ ys := by simp
    rw [e1] at h1
    obtain ⟨h3, h4⟩ := own_setCells vs old (xs ++ [v]) ys _ (by simpa using hl) h1
    rw [World.setCells]
    have e2 : (xs ++ [v]).length = xs.length + 1 := by simp
    rw [e2] at h3 h4
    exact ⟨by simpa using h3, grown_trans h2 h4 (fun k hk => .inl hk)⟩

section
variable {ops : Array Oper} {rest : List Oper} {o : Oper} {a : Act} {w : World} {Q : Exit → Act → World → Prop}

/-- an element of a row of the call's own, stored anew -/
theorem wpList_store_own {ty size base n c g off : Nat} {cells : Array Value} {xs old ys : List Value} (hg : o.guard = none) (x y : Operand) (ho : o.op = .store ty x y)
    (hx : a.eval x = .pointer (some ⟨g, off, none⟩)) (hoff : off = xs.length) (hy : a.eval y = .agg cells) (hi : (Try.prog.info? ty).map (·.size) = some cells.size) (h1 : cells.all (·.oneCell') = true)
    (hown : w.ownsRow base ty size (.slice (some ⟨g, 0, none⟩) n c) n (xs ++ old ++ ys)) (hold : old.length = cells.size) (hn : 0 < n)
    (h : ∀ w', w'.ownsRow base ty size (.slice (some ⟨g, 0, none⟩) n c) n (xs ++ cells.toList ++ ys) → w.grownBy w' (some g) → wpList Try.prog ops Q rest (a.put o.dst undef) w') : wpList Try.prog ops Q (o :: rest) a w := by
  subst hoff
  obtain ⟨h2, h3⟩ := own_setCells cells.toList old xs ys w (by simpa using hold) hown
  refine wpList_store_mid hg ty x y ho g xs.length cells hx hy ?_ hi h1 (h _ h2 h3)
  obtain ⟨g', hv, hb, hlt, cur, hh, hnc, hcm, hcs, htk⟩ := own_some hown hn
  injection hv with hv
  injection hv with hv
  subst hv
  have hnn : n * size ≤ c * size := Nat.mul_le_mul_right _ hnc
  have hlen := hown.1
  simp only [List.length_append] at hlen
  intro j hj
  have hjc : xs.length + j < cur.size := by omega
  constructor
  · rw [cell_of_row w g _ cur ty (0, 0) hh, Array.getElem?_eq_getElem hjc]; rfl
  · exact frozen_of_row w g _ cur ty hh

theorem elem_infos : (Try.prog.info? 101).map (·.size) = some 21 := by kernel_rfl
theorem und101 : ∃ d, Try.prog.underlying 101 = some d ∧ d.isRow = true := isRow_of (by kernel_rfl)

/-- a whole node of the reference into the block that was just made for it -/
theorem wpList_store_new101 {n : Rn} (hg : o.guard = none) (x y : Operand) (ho : o.op = .store 101 x y) (c : Array Value) (hx : a.eval x = .pointer (some ⟨w.heap.size, 0, none⟩)) (hy : a.eval y = .agg n.cells) (hc : c.size = 21)
    (h : wpList Try.prog ops Q rest (a.put o.dst undef) (w.alloc (.cells n.cells 101))) : wpList Try.prog ops Q (o :: rest) a (w.alloc (.cells c 101)) :=
  wpList_plain hg fun _ hK => by
    unfold Oper.wp execOp
    simp only [ho, hx, hy, Sem.run_bind, run_storeAt_new (P := Try.prog) w 101 c n.cells elem_infos hc n.cells_one, Result.andThen_ok, Sem.run_pure]
    exact hK _ _ h

/-- a whole node of the reference out of its block -/
theorem wpList_load_rn {n : Rn} {g : Nat} (hg : o.guard = none) (x : Operand) (ho : o.op = .load 101 x) (hx : a.eval x = .pointer (some ⟨g, 0, none⟩)) (hb : Blk w g 101 n.cells)
    (h : wpList Try.prog ops Q rest (a.put o.dst (.agg n.cells)) w) : wpList Try.prog ops Q (o :: rest) a w := by
  obtain ⟨d, hd, hr⟩ := und101
  exact wpList_load_mid hg 101 x ho g 0 hx n.cells.toList _ (fun j v hv => by rw [Nat.zero_add, hb.cell]; simpa using hv) hd hr (by rw [elem_infos]; rfl) h
end

theorem rcCells_length (l : List Rc) : (rcCells l).length = l.length * 3 := by
  induction l with
  | nil => rfl
  | cons a l ih => unfold rcCells at *; rw [List.flatMap_cons, List.length_append, ih]; simp [Rc.cells]; omega
theorem rcCells_append (a b : List Rc) : rcCells (a ++ b) = rcCells a ++ rcCells b := List.flatMap_append

theorem rcCells_get : ∀ (l : List Rc) (k : Nat) (r : Rc), l[k]? = some r → ∀ j v, r.cells[j]? = some v → (rcCells l)[k * 3 + j]? = some v
  | [], k, r, h => by simp at h
  | a :: l, 0, r, h => by
    intro j v hj
    simp at h; subst h
    have hj3 : j < 3 := by have := (List.getElem?_eq_some_iff.1 hj).1; simpa [Rc.cells] using this
    unfold rcCells
    rw [List.flatMap_cons, Nat.zero_mul, Nat.zero_add, List.getElem?_append_left (by simpa [Rc.cells] using hj3)]
    exact hj
  | a :: l, k + 1, r, h => by
    intro j v hj
    have := rcCells_get l k r (by simpa using h) j v hj
    unfold rcCells at *
    rw [List.flatMap_cons, List.getElem?_append_right (by simp [Rc.cells]; omega)]
    rw [← this]; congr 1; simp [Rc.cells]; omega

/-- a row of messages of the call's own, as a slice that is read -/
theorem recs_of_own {w : World} {base : Nat} {V : Option Addr} {c : Nat} {L : List Rc} (h : w.ownsRow base 37 3 (.slice V L.length c) L.length (rcCells L)) : RecsAt w w.heap.size V L := by
  intro hne
  have hn : 0 < L.length := List.length_pos_iff.2 hne
  obtain ⟨g, rfl, hb, hlt, cur, hh, hnc, hcm, hcs, htk⟩ := own_some h hn
  have key : ∀ j v, (rcCells L)[j]? = some v → w.cell? ⟨g, j, none⟩ = some v := by
    intro j v hj
    rw [cell_of_row w g j cur 37 (0, 0) hh]
    rw [← htk, List.getElem?_take] at hj
    split at hj
    · simpa using hj
    · cases hj
  refine ⟨g, 0, rfl, hlt, fun k r hk => ⟨?_, ?_, ?_⟩⟩
  · rw [Nat.zero_add]; exact key _ _ (rcCells_get L k r hk 0 _ rfl)
  · rw [Nat.zero_add]; exact key _ _ (rcCells_get L k r hk 1 _ rfl)
  · rw [Nat.zero_add]; exact key _ _ (rcCells_get L k r hk 2 _ rfl)

theorem part_succ {h d k : Nat} {L : List Rc} {r : Rc} (hr : L[k]? = some r) : part h d (L.take (k + 1)) = part h d (L.take k) ++ if dig r.uid h = d then [r] else [] := by
  obtain ⟨hlt, hk'⟩ := List.getElem?_eq_some_iff.1 hr
  unfold part
  rw [List.take_succ_eq_append_getElem hlt, List.filter_append, hk']
  by_cases he : dig r.uid h = d <;> simp [he]

end Go.Proofs.Ytnekbbmhjbjicaa

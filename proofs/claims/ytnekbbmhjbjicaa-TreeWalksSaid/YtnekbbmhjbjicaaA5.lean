/- Nodes in a slice: the statements' own store (Shelf) answers as its list. -/
import Derived.Test.YtnekbbmhjbjicaaA4
namespace Go.Proofs.Ytnekbbmhjbjicaa
open Go.RowKit

/-- what a slice of nodes tells of a slot -/
def stOf (sh : List Nd) : St := fun slot => if slot < 0 then none else (sh[slot.toNat]?).bind fun n => if n.kind = 0 then none else some n

theorem stOf_neg {sh : List Nd} {slot : Int} (h : slot < 0) : stOf sh slot = none := if_pos h
theorem stOf_out {sh : List Nd} {slot : Int} (h : (sh.length : Int) ≤ slot) : stOf sh slot = none := by
  unfold stOf
  split
  · rfl
  · rw [List.getElem?_eq_none (by omega)]; rfl
theorem stOf_in {sh : List Nd} {k : Nat} {n : Nd} (h : sh[k]? = some n) : stOf sh k = if n.kind = 0 then none else some n := by
  unfold stOf
  rw [if_neg (by omega)]
  simp [h]

/-- A slice value of so many nodes, which lie below block B. -/
def ShelfAt (w : World) (B : Nat) (A : Option Addr) (sh : List Nd) : Prop :=
  sh ≠ [] → ∃ g o, A = some ⟨g, o, none⟩ ∧ g < B ∧ ∀ k n, sh[k]? = some n → ∀ j c, n.cells[j]? = some c → w.cell? ⟨g, o + k * 26 + j, none⟩ = some c

theorem ShelfAt.below {w w' : World} {B : Nat} {A : Option Addr} {sh : List Nd} (h : ShelfAt w B A sh) (hb : Below B w w') : ShelfAt w' B A sh := fun hne => by
  obtain ⟨g, o, ha, hg, hc⟩ := h hne
  exact ⟨g, o, ha, hg, fun k n hk j c hj => (hb.cell (p := ⟨g, o + k * 26 + j, none⟩) hg).trans (hc k n hk j c hj)⟩

theorem isRow_of {t : TypeId} (h : (Try.prog.underlying t).map TypeDesc.isRow = some true) : ∃ d, Try.prog.underlying t = some d ∧ d.isRow = true := by
  cases hd : Try.prog.underlying t with
  | none => rw [hd] at h; cases h
  | some d => rw [hd] at h; exact ⟨d, rfl, by simpa using h⟩
theorem und60 : ∃ d, Try.prog.underlying 60 = some d ∧ d.isRow = true := isRow_of (by kernel_rfl)

section
variable {ops : Array Oper} {rest : List Oper} {o : Oper} {a : Act} {w : World} {Q : Exit → Act → World → Prop}

/-- a whole node out of a slice -/
theorem wpList_load_nd {n : Nd} {g off : Nat} (hg : o.guard = none) (x : Operand) (ho : o.op = .load 60 x) (hx : a.eval x = .pointer (some ⟨g, off, none⟩))
    (hb : ∀ j c, n.cells[j]? = some c → w.cell? ⟨g, off + j, none⟩ = some c)
    (h : wpList Try.prog ops Q rest (a.put o.dst (.agg n.cells)) w) : wpList Try.prog ops Q (o :: rest) a w := by
  obtain ⟨fs, hfs, hrow⟩ := und60
  exact wpList_load_mid hg 60 x ho g off hx n.cells.toList _ (fun j v hv => hb j v (by simpa using hv)) hfs hrow (by rw [info60]; rfl) h
end

theorem results_nd {fn : Func} {p u : Tmp} (h : fn.results = #[.cell p 60, .tmp u]) (tmps : Array Value) (w : World) (g : Nat) (n : Nd) (hp : tmps.getD p undef = .pointer (some ⟨g, 0, none⟩)) (hb : Blk w g 60 n.cells) :
    (results fn tmps).run Try.prog w = .ok (.tuple #[.agg n.cells, tmps.getD u undef]) w := by
  obtain ⟨fs, hfs, hrow⟩ := und60
  rw [results_cell_tmp h, hp]
  have h1 : (asAddr (.pointer (some ⟨g, 0, none⟩))).run Try.prog w = .ok ⟨g, 0, none⟩ w := rfl
  have h2 : (loadVar 60 ⟨g, 0, none⟩).run Try.prog w = .ok (.agg n.cells) w :=
    run_loadVar_mid w g 0 60 n.cells.toList _ (fun j v hv => by rw [Nat.zero_add, hb.cell]; simpa using hv) hfs hrow (by rw [info60]; rfl)
  rw [h1, Result.andThen_ok, h2, Result.andThen_ok]

set_option maxRecDepth 100000 in
theorem at_none (A : Option Addr) (n c : Nat) (slot : Int) (hs : slot < 0 ∨ (n : Int) ≤ slot) (w : World) :
    Calls Try.prog 56 #[.slice A n c, .int .i64 slot] w fun e w' => e = .returned (.tuple #[.agg Nd.zero.cells, .bool false]) ∧ Below w.heap.size w w' := by
  by_cases hneg : slot < 0
  · have hd : decide (slot < 0) = true := by simpa using hneg
    clear hs
    go_enter Try.func56, Try.ntmps56
    go_wp2_with (first
      | (refine wpList_store_new (n := Nd.zero) rfl (.tmp 4) (.tmp 22) rfl _ rfl rfl rfl ?_))
    exact bodyPost_ret (results_nd rfl _ _ w.heap.size Nd.zero rfl (Blk.new _ _ _)) rfl ⟨rfl, below_alloc (Below.refl _ _) _⟩
  · have hge : (n : Int) ≤ slot := by omega
    have hd : decide (slot < 0) = false := by simpa using hneg
    have hd2 : decide ((n : Int) ≤ slot) = true := by simpa using hge
    clear hs
    go_enter Try.func56, Try.ntmps56
    go_wp2_with (first
      | (refine wpList_store_new (n := Nd.zero) rfl (.tmp 4) (.tmp 22) rfl _ rfl rfl rfl ?_))
    exact bodyPost_ret (results_nd rfl _ _ w.heap.size Nd.zero rfl (Blk.new _ _ _)) rfl ⟨rfl, below_alloc (Below.refl _ _) _⟩

set_option maxRecDepth 100000 in
theorem at_some (g o n c k : Nat) (nd : Nd) (hk : k < n) (w : World) (hc : ∀ j c, nd.cells[j]? = some c → w.cell? ⟨g, o + k * 26 + j, none⟩ = some c) (hg : g < w.heap.size) :
    Calls Try.prog 56 #[.slice (some ⟨g, o, none⟩) n c, .int .i64 k] w fun e w' => e = .returned (.tuple #[.agg (Nd.of (if nd.kind = 0 then none else some nd)).cells, .bool (if nd.kind = 0 then none else some nd).isSome]) ∧ Below w.heap.size w w' := by
  have h0 : w.cell? ⟨g, o + k * 26, none⟩ = some (.int .u8 nd.kind) := hc 0 _ nd.cells_0
  have hcc : ∀ j c, nd.cells[j]? = some c → ∀ Z, (w.alloc Z).cell? ⟨g, o + k * 26 + j, none⟩ = some c := fun j c hj Z => (World.cell?_alloc_lt w Z _ hg).trans (hc j c hj)
  have HC := Lib.hid hcc; clear hc hcc
  have hd : decide ((k : Int) < 0) = false := by simp
  have hd2 : decide ((n : Int) ≤ k) = false := by simp; omega
  by_cases hz : nd.kind = 0
  · have hz' : ((nd.kind : Int) == 0) = true := by simp [hz]
    rw [if_pos hz]
    have HZ := Lib.hid hz; clear hz
    go_enter Try.func56, Try.ntmps56
    go_wp2_with (first
      | (refine wpList_store_new (n := Nd.zero) rfl (.tmp 4) (.tmp 22) rfl _ rfl rfl rfl ?_))
    exact bodyPost_ret (results_nd rfl _ _ w.heap.size Nd.zero rfl (Blk.new _ _ _)) rfl ⟨rfl, below_alloc (Below.refl _ _) _⟩
  · have hz' : ((nd.kind : Int) == 0) = false := by simp; omega
    rw [if_neg hz]
    have HZ := Lib.hid hz; clear hz
    go_enter Try.func56, Try.ntmps56
    go_wp2_with (first
      | (refine wpList_load_nd (n := nd) rfl (.tmp 25) rfl rfl (fun j c hj => HC.out j c hj _) ?_)
      | (refine wpList_store_new (n := nd) rfl (.tmp 4) (.tmp 26) rfl _ rfl rfl rfl ?_))
    exact bodyPost_ret (results_nd rfl _ _ w.heap.size nd rfl (Blk.new _ _ _)) rfl ⟨rfl, below_alloc (Below.refl _ _) _⟩

/-- the statements' own store -/
theorem shelf_store (A : Option Addr) (c B : Nat) (sh : List Nd) :
    IsStore (.iface 26 (.slice A sh.length c)) (stOf sh) B (fun w => B ≤ w.heap.size ∧ ShelfAt w B A sh) where
  at_ := by
    intro slot w ⟨hB, hsh⟩
    refine ⟨56, .slice A sh.length c, fun w => by kernel_rfl, ?_⟩
    by_cases hin : 0 ≤ slot ∧ slot < sh.length
    · obtain ⟨k, rfl⟩ := Int.eq_ofNat_of_zero_le hin.1
      have hk : k < sh.length := by omega
      obtain ⟨g, o, rfl, hg, hc⟩ := hsh (by intro e; subst e; simp at hk)
      have hn : sh[k]? = some sh[k] := List.getElem?_eq_getElem hk
      rw [stOf_in hn]
      exact at_some g o sh.length c k sh[k] hk w (hc k _ hn) (by omega)
    · rcases Int.lt_or_le slot 0 with h | h
      · rw [stOf_neg h]; exact at_none A _ c slot (.inl h) w
      · rw [stOf_out (by omega)]; exact at_none A _ c slot (.inr (by omega)) w
  kept := fun w w' ⟨hB, hsh⟩ hb => ⟨Nat.le_trans hB hb.size, hsh.below hb⟩
  le := fun w h => h.1
  less := stOf_neg (by omega)

end Go.Proofs.Ytnekbbmhjbjicaa

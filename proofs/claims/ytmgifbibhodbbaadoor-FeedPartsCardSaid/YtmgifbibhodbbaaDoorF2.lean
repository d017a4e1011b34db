/- A feed in memory; what stands while it takes bytes; its smallest methods. -/
import Derived.Test.YtmgifbibhodbbaaDoorF1
import Derived.Laws.OwnMore
import Derived.Laws.EntriesVeiled
namespace Go.Proofs.YtmgifbibhodbbaaDoor
open Go.RowKit

/-- block k is a row of bytes -/
def ByteRow (w : World) (k : Nat) : Prop := ∃ cs fr, w.heap[k]? = some (.cells cs 5 fr)
/-- but for block g, and for rows of bytes from B on, what lay lies as it lay -/
structure Fr (g B : Nat) (w w' : World) : Prop where
  os : w'.os = w.os
  tape : w'.tape = w.tape
  output : w'.output = w.output
  size : w.heap.size ≤ w'.heap.size
  block : ∀ k, k < w.heap.size → k ≠ g → (k < B ∨ ¬ ByteRow w k) → w'.heap[k]? = w.heap[k]?
theorem Fr.refl (g B : Nat) (w : World) : Fr g B w w := ⟨rfl, rfl, rfl, Nat.le_refl _, fun _ _ _ _ => rfl⟩
theorem Fr.trans {g B : Nat} {a b c : World} (h : Fr g B a b) (k : Fr g B b c) : Fr g B a c :=
  ⟨k.os.trans h.os, k.tape.trans h.tape, k.output.trans h.output, Nat.le_trans h.size k.size, fun i hi hg hc => by
    have e := h.block i hi hg hc
    refine (k.block i (Nat.lt_of_lt_of_le hi h.size) hg (hc.imp id (fun hn hr => hn ?_))).trans e
    obtain ⟨cs, fr, hx⟩ := hr
    exact ⟨cs, fr, e ▸ hx⟩⟩
theorem Fr.of_below {g B : Nat} {a b : World} (h : Below a.heap.size a b) : Fr g B a b := ⟨h.os, h.tape, h.output, h.size, fun k hk _ _ => h.block k hk⟩
theorem Fr.then {g B : Nat} {a b c : World} (h : Fr g B a b) (k : Below b.heap.size b c) : Fr g B a c := h.trans (.of_below k)
theorem Fr.alloc {g B : Nat} {a b : World} (h : Fr g B a b) (o : Obj) : Fr g B a (b.alloc o) := h.then (below_alloc (Below.refl _ _) o)
theorem Fr.drewN {g B : Nat} {a b : World} (h : Fr g B a b) (n : Nat) : Fr g B a (b.drewN n) := h.then (below_drewN (Below.refl _ _) n)
theorem Fr.grownG {g B : Nat} {a b c : World} (h : Fr g B a b) (k : b.grownBy c (some g)) : Fr g B a c :=
  h.trans ⟨k.os, k.tape, k.output, k.size, fun i hi hg _ => k.block i hi (by simp; omega)⟩
theorem Fr.set_ {g B : Nat} {a b : World} (h : Fr g B a b) (i : Nat) (u : Value) : Fr g B a (b.setCell ⟨g, i, none⟩ u) := h.grownG (grown_set1 b g i u)
theorem Fr.fresh {g B : Nat} {a b : World} (h : Fr g B a b) {p : Addr} (hp : a.heap.size ≤ p.block) (u : Value) : Fr g B a (b.setCell p u) :=
  ⟨h.os, h.tape, h.output, by simpa [World.setCell] using h.size, fun i hi hg hc => (Below.heap_setCell b p u i (by omega)).trans (h.block i hi hg hc)⟩
theorem Fr.row {g B k : Nat} {a b c : World} (h : Fr g B a b) (q : b.grownBy c (some k)) (hk : B ≤ k) (hr : ByteRow b k) : Fr g B a c :=
  h.trans ⟨q.os, q.tape, q.output, q.size, fun i hi _ hc => q.block i hi (fun e => by
    injection e with e; subst e
    rcases hc with h1 | h1
    · omega
    · exact h1 hr)⟩
theorem Fr.rows {g B : Nat} {a b c : World} {v : Value} {n : Nat} {xs : List Value} (h : Fr g B a b) (q : b.grownBy c v.ownBlock) (ho : b.ownsRow B 5 1 v n xs) : Fr g B a c := by
  rcases ho.2 with ⟨rfl, _⟩ | ⟨k, cap, cur, rfl, hk, hcur, _⟩
  · exact h.then (below_grown q)
  · exact h.row (k := k) q hk ⟨cur, (0, 0), hcur⟩
theorem Fr.blk {g B : Nat} {a b : World} (h : Fr g B a b) {k : Nat} {t : TypeId} {cs : Array Value} (hb : Blk a k t cs) (hk : k ≠ g) (ht : k < B ∨ t ≠ 5) : Blk b k t cs :=
  (h.block k hb.lt hk (ht.imp id (fun hn ⟨cs', fr, hx⟩ => by
    have hx' : a.heap[k]? = some (.cells cs t (0, 0)) := hb
    rw [hx'] at hx
    injection hx with hx; injection hx with _ hx; exact hn hx))).trans hb
theorem Fr.below {g B n : Nat} {a b : World} (h : Fr g B a b) (hn : n ≤ g) (hB : n ≤ B) (ha : n ≤ a.heap.size) : Below n a b := ⟨h.os, h.tape, h.output, h.size, fun k hk => h.block k (by omega) (by omega) (.inl (by omega))⟩

/-- the function that takes the next byte -/
def fnOf (g m : Nat) : Value := .func (.func (if m = 0 then 50 else if m = 1 then 81 else 63)) #[.pointer (some ⟨g, 0, none⟩)] #[]
/-- a feed in memory: its block, its row from B on -/
structure Fd (B g : Nat) (w : World) (st : FS) (v : Value) : Prop where
  blk : Blk w g 68 #[v, .int .i64 st.from_, .int .i64 st.own, .int .i64 st.all, .int .i64 st.left, .int .u8 st.last, fnOf g st.mode]
  own : w.ownsRow B 5 1 v st.s.length (Lib.byteCells st.s)
  lt : g < B
  le : B ≤ w.heap.size
theorem Fd.ne {B g : Nat} {w : World} {st : FS} {v : Value} (h : Fd B g w st v) : v.ownBlock ≠ some g := by
  intro e
  have := (h.own.lt g e).1
  have := h.lt
  omega
theorem Fd.below {B g : Nat} {w w' : World} {st : FS} {v : Value} (h : Fd B g w st v) (hb : Below w.heap.size w w') : Fd B g w' st v :=
  ⟨h.blk.stay hb, h.own.kept (row := none) (grown_of_below hb none) (by
    cases hv : v.ownBlock with
    | none => left; rfl
    | some k => right; simp), h.lt, Nat.le_trans h.le hb.size⟩

set_option maxHeartbeats 800000 in
theorem again_blk (g : Nat) (v u1 u2 u3 u4 u5 u : Value) (w : World) (h : Blk w g 68 #[v, u1, u2, u3, u4, u5, u]) :
    Calls Tryd.prog 82 #[.pointer (some ⟨g, 0, none⟩)] w fun e w' => e = .returned (.tuple #[]) ∧ Blk w' g 68 #[.slice none 0 0, .int .i64 0, .int .i64 0, .int .i64 0, .int .i64 0, .int .u8 0, .func (.func 50) #[.pointer (some ⟨g, 0, none⟩)] #[]] ∧ w.grownBy w' (some g) := by
  have H0 := Lib.hid h
  clear h
  have G0 := grown_refl w (some g)
  go_enter Tryd.func82, Tryd.ntmps82
  repeat (first | go_values | go_guarded | go_step | go_upon)
  have c : w.cell? ⟨g, 0, none⟩ = some v := H0.out.cell 0
  have f := H0.out.frozen 0
  simp only [c, f, Bool.false_eq_true, if_false]
  have H1 : Hid (Blk (w.setCell ⟨g, 0, none⟩ (.slice none 0 0)) g 68 #[(.slice none 0 0), u1, u2, u3, u4, u5, u]) := Lib.hid (H0.out.set_ 0 (.slice none 0 0))
  have G1 := grown_set2 G0 0 (.slice none 0 0)
  generalize w.setCell ⟨g, 0, none⟩ (.slice none 0 0) = w1 at H1 G1 ⊢
  clear c f H0 G0
  repeat (first | go_values | go_guarded | go_step | go_upon)
  have c : w1.cell? ⟨g, 1, none⟩ = some u1 := H1.out.cell 1
  have f := H1.out.frozen 1
  simp only [c, f, Bool.false_eq_true, if_false]
  have H2 : Hid (Blk (w1.setCell ⟨g, 1, none⟩ (.int .i64 0)) g 68 #[(.slice none 0 0), (.int .i64 0), u2, u3, u4, u5, u]) := Lib.hid (H1.out.set_ 1 (.int .i64 0))
  have G2 := grown_set2 G1 1 (.int .i64 0)
  generalize w1.setCell ⟨g, 1, none⟩ (.int .i64 0) = w2 at H2 G2 ⊢
  clear c f H1 G1
  repeat (first | go_values | go_guarded | go_step | go_upon)
  have c : w2.cell? ⟨g, 2, none⟩ = some u2 := H2.out.cell 2
  have f := H2.out.frozen 2
  simp only [c, f, Bool.false_eq_true, if_false]
  have H3 : Hid (Blk (w2.setCell ⟨g, 2, none⟩ (.int .i64 0)) g 68 #[(.slice none 0 0), (.int .i64 0), (.int .i64 0), u3, u4, u5, u]) := Lib.hid (H2.out.set_ 2 (.int .i64 0))
  have G3 := grown_set2 G2 2 (.int .i64 0)
  generalize w2.setCell ⟨g, 2, none⟩ (.int .i64 0) = w3 at H3 G3 ⊢
  clear c f H2 G2
  repeat (first | go_values | go_guarded | go_step | go_upon)
  have c : w3.cell? ⟨g, 3, none⟩ = some u3 := H3.out.cell 3
  have f := H3.out.frozen 3
  simp only [c, f, Bool.false_eq_true, if_false]
  have H4 : Hid (Blk (w3.setCell ⟨g, 3, none⟩ (.int .i64 0)) g 68 #[(.slice none 0 0), (.int .i64 0), (.int .i64 0), (.int .i64 0), u4, u5, u]) := Lib.hid (H3.out.set_ 3 (.int .i64 0))
  have G4 := grown_set2 G3 3 (.int .i64 0)
  generalize w3.setCell ⟨g, 3, none⟩ (.int .i64 0) = w4 at H4 G4 ⊢
  clear c f H3 G3
  repeat (first | go_values | go_guarded | go_step | go_upon)
  have c : w4.cell? ⟨g, 4, none⟩ = some u4 := H4.out.cell 4
  have f := H4.out.frozen 4
  simp only [c, f, Bool.false_eq_true, if_false]
  have H5 : Hid (Blk (w4.setCell ⟨g, 4, none⟩ (.int .i64 0)) g 68 #[(.slice none 0 0), (.int .i64 0), (.int .i64 0), (.int .i64 0), (.int .i64 0), u5, u]) := Lib.hid (H4.out.set_ 4 (.int .i64 0))
  have G5 := grown_set2 G4 4 (.int .i64 0)
  generalize w4.setCell ⟨g, 4, none⟩ (.int .i64 0) = w5 at H5 G5 ⊢
  clear c f H4 G4
  repeat (first | go_values | go_guarded | go_step | go_upon)
  have c : w5.cell? ⟨g, 5, none⟩ = some u5 := H5.out.cell 5
  have f := H5.out.frozen 5
  simp only [c, f, Bool.false_eq_true, if_false]
  have H6 : Hid (Blk (w5.setCell ⟨g, 5, none⟩ (.int .u8 0)) g 68 #[(.slice none 0 0), (.int .i64 0), (.int .i64 0), (.int .i64 0), (.int .i64 0), (.int .u8 0), u]) := Lib.hid (H5.out.set_ 5 (.int .u8 0))
  have G6 := grown_set2 G5 5 (.int .u8 0)
  generalize w5.setCell ⟨g, 5, none⟩ (.int .u8 0) = w6 at H6 G6 ⊢
  clear c f H5 G5
  repeat (first | go_values | go_guarded | go_step | go_upon)
  have c : w6.cell? ⟨g, 6, none⟩ = some u := H6.out.cell 6
  have f := H6.out.frozen 6
  simp [go_sem, c, f]
  have H7 : Hid (Blk (w6.setCell ⟨g, 6, none⟩ (.func (.func 50) #[.pointer (some ⟨g, 0, none⟩)] #[])) g 68 #[(.slice none 0 0), (.int .i64 0), (.int .i64 0), (.int .i64 0), (.int .i64 0), (.int .u8 0), (.func (.func 50) #[.pointer (some ⟨g, 0, none⟩)] #[])]) := Lib.hid (H6.out.set_ 6 (.func (.func 50) #[.pointer (some ⟨g, 0, none⟩)] #[]))
  have G7 := grown_set2 G6 6 (.func (.func 50) #[.pointer (some ⟨g, 0, none⟩)] #[])
  generalize w6.setCell ⟨g, 6, none⟩ (.func (.func 50) #[.pointer (some ⟨g, 0, none⟩)] #[]) = w7 at H7 G7 ⊢
  clear c f H6 G6
  repeat (first | go_values | go_guarded | go_step | go_upon)
  exact bodyPost_end0 rfl rfl ⟨rfl, H7.out, G7⟩

theorem again_any (B g : Nat) (st : FS) (v : Value) (w : World) (h : Fd B g w st v) :
    Calls Tryd.prog 82 #[.pointer (some ⟨g, 0, none⟩)] w fun e w' => e = .returned (.tuple #[]) ∧ Fd B g w' FS.new (.slice none 0 0) ∧ w.grownBy w' (some g) := by
  refine (again_blk g _ _ _ _ _ _ _ w h.blk).mono ?_
  rintro e w1 ⟨rfl, hb, hg⟩
  exact ⟨rfl, ⟨hb, ⟨rfl, .inl ⟨rfl, rfl⟩⟩, h.lt, Nat.le_trans h.le hg.size⟩, hg⟩

end Go.Proofs.YtmgifbibhodbbaaDoor

/- The plain model of messages, nodes, stores and trees: definitions, and how they lie in cells. -/
import Derived.WalkKit
import Derived.Deep.Draws
namespace Go.Proofs.Ytnekbbmhjbjicaa
open Go.RowKit

theorem below_alloc {a w : World} (h : Below a.heap.size a w) (o : Obj) : Below a.heap.size a (w.alloc o) := h.alloc h.size o
theorem below_drewN {B : Nat} {a w : World} (h : Below B a w) (n : Nat) : Below B a (w.drewN n) := ⟨h.os, h.tape, h.output, h.size, h.block⟩
/-- behind a call whose world is w1 -/
theorem below_on {a w w1 : World} (h : Below a.heap.size a w) (k : Below w.heap.size w w1) : Below a.heap.size a w1 := h.trans (k.mono h.size)

/-- block g is just these cells of element type t, none of them frozen -/
def Blk (w : World) (g : Nat) (t : TypeId) (cs : Array Value) : Prop := w.heap[g]? = some (.cells cs t (0, 0))

theorem Blk.lt {w : World} {g : Nat} {t : TypeId} {cs : Array Value} (h : Blk w g t cs) : g < w.heap.size := (Array.getElem?_eq_some_iff.1 h).1
theorem Blk.cell {w : World} {g : Nat} {t : TypeId} {cs : Array Value} (h : Blk w g t cs) (i : Nat) : w.cell? ⟨g, i, none⟩ = cs[i]? := cell_of_row w g i cs t (0, 0) h
theorem Blk.frozen {w : World} {g : Nat} {t : TypeId} {cs : Array Value} (h : Blk w g t cs) (i : Nat) : w.frozen? ⟨g, i, none⟩ = false := frozen_of_row w g i cs t h
theorem Blk.new (w : World) (t : TypeId) (cs : Array Value) : Blk (w.alloc (.cells cs t)) w.heap.size t cs := heap_alloc_new w _
theorem Blk.drewN {w : World} {g : Nat} {t : TypeId} {cs : Array Value} (h : Blk w g t cs) (n : Nat) : Blk (w.drewN n) g t cs := h
theorem Blk.alloc {w : World} {g : Nat} {t : TypeId} {cs : Array Value} (h : Blk w g t cs) (o : Obj) : Blk (w.alloc o) g t cs := (Below.heap_alloc w o g h.lt).trans h
theorem Blk.far {w : World} {g : Nat} {t : TypeId} {cs : Array Value} (h : Blk w g t cs) {p : Addr} (hp : g ≠ p.block) (u : Value) : Blk (w.setCell p u) g t cs := (Below.heap_setCell w p u g hp).trans h
theorem Blk.set_ {w : World} {g : Nat} {t : TypeId} {cs : Array Value} (h : Blk w g t cs) (i : Nat) (u : Value) : Blk (w.setCell ⟨g, i, none⟩ u) g t (cs.setIfInBounds i u) := by
  unfold Blk at h ⊢
  simp [World.setCell, Array.getElem?_modify, h]
theorem Blk.below {w w' : World} {g B : Nat} {t : TypeId} {cs : Array Value} (h : Blk w g t cs) (hb : Below B w w') (hg : g < B) : Blk w' g t cs := (hb.block g hg).trans h
theorem Blk.stay {w w' : World} {g : Nat} {t : TypeId} {cs : Array Value} (h : Blk w g t cs) (hb : Below w.heap.size w w') : Blk w' g t cs := h.below hb h.lt

theorem Blk.three {w : World} {g : Nat} {t : TypeId} {a b c : Value} (h : Blk w g t #[a, b, c]) :
    w.cell? ⟨g, 0, none⟩ = some a ∧ w.cell? ⟨g, 1, none⟩ = some b ∧ w.cell? ⟨g, 2, none⟩ = some c ∧ ∀ i, w.frozen? ⟨g, i, none⟩ = false :=
  ⟨h.cell 0, h.cell 1, h.cell 2, h.frozen⟩

/-- a message -/
structure Rc where
  uid : Nat
  fl : Nat
  txt : ByteArray

def Rc.zero : Rc := ⟨0, 0, ByteArray.empty⟩

/-- its cells -/
def Rc.cells (r : Rc) : List Value := [.int .u32 r.uid, .int .u8 r.fl, .string r.txt]

/-- what Go's types bear -/
def Rc.ok (r : Rc) : Prop := r.uid < 4294967296 ∧ r.fl < 256 ∧ r.txt.size ≤ maxLen

/-- a node: its kind, its count, its slots, its message (a head is zero everywhere here) -/
structure Nd where
  kind : Nat
  count : Int
  kids : Nat → Int
  rc : Rc

def Nd.zero : Nd := ⟨0, 0, fun _ => 0, Rc.zero⟩
def Nd.leaf (r : Rc) : Nd := ⟨2, 0, fun _ => 0, r⟩
def Nd.branch (n : Int) (kids : Nat → Int) : Nd := ⟨1, n, kids, Rc.zero⟩

def Nd.cells (n : Nd) : Array Value :=
  #[.int .u8 n.kind, .int .i64 n.count,
    .int .i64 (n.kids 0), .int .i64 (n.kids 1), .int .i64 (n.kids 2), .int .i64 (n.kids 3),
    .int .i64 (n.kids 4), .int .i64 (n.kids 5), .int .i64 (n.kids 6), .int .i64 (n.kids 7),
    .int .i64 (n.kids 8), .int .i64 (n.kids 9), .int .i64 (n.kids 10), .int .i64 (n.kids 11),
    .int .i64 (n.kids 12), .int .i64 (n.kids 13), .int .i64 (n.kids 14), .int .i64 (n.kids 15),
    .int .u32 n.rc.uid, .int .u8 n.rc.fl, .string n.rc.txt,
    .int .i64 0, .int .i64 0, .int .u32 0, .int .u32 0, .int .u64 0]

theorem Nd.cells_size (n : Nd) : n.cells.size = 26 := rfl
theorem Nd.cells_0 (n : Nd) : n.cells[0]? = some (.int .u8 n.kind) := rfl
theorem Nd.cells_1 (n : Nd) : n.cells[1]? = some (.int .i64 n.count) := rfl
theorem Nd.cells_18 (n : Nd) : n.cells[18]? = some (.int .u32 n.rc.uid) := rfl
theorem Nd.cells_19 (n : Nd) : n.cells[19]? = some (.int .u8 n.rc.fl) := rfl
theorem Nd.cells_20 (n : Nd) : n.cells[20]? = some (.string n.rc.txt) := rfl
theorem Nd.cells_kid (n : Nd) (d : Nat) (h : d < 16) : n.cells[2 + d]? = some (.int .i64 (n.kids d)) := by
  match d, h with
  | 0, _ => rfl | 1, _ => rfl | 2, _ => rfl | 3, _ => rfl | 4, _ => rfl | 5, _ => rfl | 6, _ => rfl | 7, _ => rfl
  | 8, _ => rfl | 9, _ => rfl | 10, _ => rfl | 11, _ => rfl | 12, _ => rfl | 13, _ => rfl | 14, _ => rfl | 15, _ => rfl
  | n + 16, h => omega
theorem Nd.cells_one (n : Nd) : n.cells.all (·.oneCell') = true := by simp [Nd.cells, Value.oneCell']

/-- a store's answer, as a node (zero where there is none) -/
abbrev Nd.of (o : Option Nd) : Nd := o.getD Nd.zero

/-- how many digits to the base 16 -/
def need (u : Nat) : Nat := if u < 16 then 1 else need (u / 16) + 1
termination_by u
decreasing_by omega

theorem need_lt {u : Nat} (h : u < 16) : need u = 1 := by rw [need, if_pos h]
theorem need_ge {u : Nat} (h : 16 ≤ u) : need u = need (u / 16) + 1 := by rw [need, if_neg (by omega)]
theorem need_pos (u : Nat) : 1 ≤ need u := by rw [need]; split <;> omega
theorem need_le_iff : ∀ (h u : Nat), 1 ≤ h → (need u ≤ h ↔ u < 16 ^ h)
  | 0, _, h1 => by omega
  | 1, u, _ => by
    by_cases hu : u < 16
    · simp [need_lt hu, hu]
    · have := need_pos (u / 16)
      rw [need_ge (by omega)]; simp; omega
  | h + 2, u, _ => by
    by_cases hu : u < 16
    · have : 16 ^ 1 ≤ 16 ^ (h + 2) := Nat.pow_le_pow_right (by omega) (by omega)
      simp [need_lt hu]; omega
    · have ih := need_le_iff (h + 1) (u / 16) (by omega)
      rw [need_ge (by omega), Nat.pow_succ 16 (h + 1), ← Nat.div_lt_iff_lt_mul (by omega), ← ih]; omega
theorem need_le_eight {u : Nat} (h : u < 4294967296) : need u ≤ 8 := (need_le_iff 8 u (by omega)).2 (by simpa using h)

/-- a number's digit of a rank -/
def dig (u r : Nat) : Nat := u / 16 ^ r % 16
theorem dig_lt (u r : Nat) : dig u r < 16 := Nat.mod_lt _ (by omega)

abbrev St := Int → Option Nd

/-- how many stand at a slot or below it -/
def bel (st : St) (slot : Int) : Int :=
  match st slot with
  | none => 0
  | some n => if n.kind = 2 then 1 else n.count

/-- the way down to a number -/
def getL (st : St) (u : Nat) : Nat → Int → Option Nd
  | 0, slot => st slot
  | r + 1, slot => (st slot).bind fun n => getL st u r (n.kids (dig u r))

def belSum (st : St) (kids : Nat → Int) : Nat → Int
  | 0 => 0
  | d + 1 => belSum st kids d + bel st (kids d)

def rankL (st : St) (u : Nat) : Nat → Int → Int
  | 0, _ => 0
  | r + 1, slot =>
    match st slot with
    | none => 0
    | some n => belSum st n.kids (dig u r) + rankL st u r (n.kids (dig u r))

end Go.Proofs.Ytnekbbmhjbjicaa

/- The reference's Build: its plain model, and its contract. -/
import Derived.Test.YtnekbbmhjbjicaaA7
namespace Go.Proofs.Ytnekbbmhjbjicaa
open Go.RowKit

/-- the messages of a digit -/
def part (h d : Nat) (L : List Rc) : List Rc := L.filter (fun r => dig r.uid h == d)

def accBl (f : List Rc → Nat → List Rn) (h : Nat) (L : List Rc) (at_ : Nat) : Nat → List Rn
  | 0 => []
  | d + 1 => accBl f h L at_ d ++ (if part h d L = [] then [] else f (part h d L) (at_ + 1 + (accBl f h L at_ d).length))

/-- the slot of a digit -/
def kidBl (f : List Rc → Nat → List Rn) (h : Nat) (L : List Rc) (at_ d : Nat) : Int :=
  if part h d L = [] then -1 else ((at_ + 1 + (accBl f h L at_ d).length : Nat) : Int)

def bl : Nat → List Rc → Nat → List Rn
  | 0, L, _ => [Rn.leafOf (L.headD Rc.zero)]
  | h + 1, L, at_ => ⟨false, L.length, kidBl (bl h) h L at_, Rc.zero⟩ :: accBl (bl h) h L at_ 16

theorem accBl_mono (f : List Rc → Nat → List Rn) (h : Nat) (L : List Rc) (at_ : Nat) {d e : Nat} (hde : d ≤ e) : (accBl f h L at_ d).length ≤ (accBl f h L at_ e).length := by
  induction e with
  | zero => obtain rfl : d = 0 := by omega
            exact Nat.le_refl _
  | succ e ih =>
    rcases Nat.lt_or_ge d (e + 1) with h1 | h1
    · have := ih (by omega)
      simp only [accBl, List.length_append]
      omega
    · obtain rfl : d = e + 1 := by omega
      exact Nat.le_refl _

/-- nodes, as cells -/
def rnCells (l : List Rn) : List Value := l.flatMap (fun n => n.cells.toList)
theorem rnCells_append (a b : List Rn) : rnCells (a ++ b) = rnCells a ++ rnCells b := List.flatMap_append
theorem rnCells_cons (a : Rn) (b : List Rn) : rnCells (a :: b) = a.cells.toList ++ rnCells b := rfl
theorem rnCells_length (l : List Rn) : (rnCells l).length = l.length * 21 := by
  induction l with
  | nil => rfl
  | cons a l ih => rw [rnCells_cons, List.length_append, ih]; simp [Rn.cells]; omega

/-- messages, as cells -/
def rcCells (l : List Rc) : List Value := l.flatMap Rc.cells

/-- the outcome of Build -/
def BuildPost (base : Nat) (V : Option Addr) (n : Nat) (xs : List Value) (l : List Rn) (w : World) (e : Ending) (w' : World) : Prop :=
  ∃ V' c', e = .returned (.tuple #[.slice V' (n + l.length) c', .int .i64 n]) ∧ w'.ownsRow base 101 21 (.slice V' (n + l.length) c') (n + l.length) (xs ++ rnCells l) ∧
    w.grownBy w' (ob V) ∧ (∀ g, ob V' = some g → ob V = some g ∨ w.heap.size ≤ g)

set_option maxRecDepth 100000 in
theorem build_leaf (A V : Option Addr) (c n vc base : Nat) (L : List Rc) (xs : List Value) (w : World) (hne : L ≠ []) (hown : w.ownsRow base 101 21 (.slice V n vc) n xs) (hbase : base ≤ w.heap.size)
    (hl : RecsAt w w.heap.size A L) (hn : n + 1 ≤ 100000) (hlen : L.length ≤ 1000) :
    Calls Try.prog 39 #[.slice V n vc, .slice A L.length c, .int .i64 (-1)] w (BuildPost base V n xs (bl 0 L n) w) := by
  have h0 : 0 < L.length := List.length_pos_iff.2 hne
  obtain ⟨g, o, rfl, hg, hc⟩ := hl.at_ h0
  obtain ⟨r, hr⟩ : ∃ r, L[0]? = some r := ⟨_, List.getElem?_eq_getElem h0⟩
  obtain ⟨h1, h2, h3⟩ := hc 0 r hr
  simp only [Nat.zero_mul, Nat.add_zero] at h1 h2 h3
  have hhd : L.headD Rc.zero = r := by cases L <;> simp_all
  have HD := Lib.hid hhd
  clear hc hl hr hhd hne
  go_enter Try.func39, Try.ntmps39
  go_wp2_with (first
    | (refine wpList_value (o := ⟨some 21, _, _, _, _, _⟩) rfl (.agg (Rn.leafOf r).cells) (by kernel_rfl) ?_)
    | (refine wpList_one101 (o := ⟨some 22, _, _, _, _, _⟩) (n := Rn.leafOf r) rfl (.tmp 21) rfl rfl ?_)
    | (at_builtin; refine wpList_app (o := ⟨some 23, _, _, _, _, _⟩) elem101 rfl (.tmp 17) (.tmp 22) rfl base V n vc xs rfl hown rfl rfl (Rn.cells_one _) (by omega) (by omega) hbase ?_; intro V1 c1 w1 hown1 hg1 hob1))
  go_ret2
  refine ⟨V1, c1, ?_, ?_, hg1, hob1⟩
  · rfl
  · simp only [bl, HD.out, rnCells, List.flatMap_cons, List.flatMap_nil, List.append_nil]
    exact hown1

end Go.Proofs.Ytnekbbmhjbjicaa

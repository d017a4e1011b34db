/- From what the row lists of the variables to what the walks ask of them; one start that fits. -/
import Derived.Test.YtmgifbibhodbbaaDoorT2
import Derived.ProofKit
import Derived.LaidLaws
import Derived.LaidHandle
import Derived.LaidSub
import Derived.Stop.LaidErr
import Derived.Lib.LaidU8
import Derived.Lib.LaidTab
import Derived.Stop.Joined
namespace Go.Proofs.YtmgifbibhodbbaaDoor
open Go.ChangeShapes Go.WideShapes Go.ChangeAt Go.RowKit

theorem own : ownKnob Tryd.prog.godebug = none := by kernel_rfl
theorem laidOut : laidOutB Tryd.prog = true := by kernel_rfl
theorem g0 : Tryd.prog.globalNamed "strconv.ErrSyntax" = some 0 := by kernel_rfl
theorem g1 : Tryd.prog.globalNamed "strconv.ErrRange" = some 1 := by kernel_rfl
theorem g2 : Tryd.prog.globalNamed "internal/strconv.uint64pow10" = some 2 := by kernel_rfl
theorem g0t : (Tryd.prog.globals[0]?).map (·.type) = some 59 := by kernel_rfl
theorem g1t : (Tryd.prog.globals[1]?).map (·.type) = some 59 := by kernel_rfl
theorem g2t : (Tryd.prog.globals[2]?).map (·.type) = some 114 := by kernel_rfl
theorem star : "*" ++ "errors.errorString" = "*errors.errorString" := by decide
theorem row121 (u : TypeId) (h : Tryd.prog.typeName? 3 u = some "*errors.errorString") : u = 121 :=
  typeName_ptr_named (nm := "errors.errorString") (by rw [star]; kernel_rfl) (by kernel_rfl) (by decide) u (by rw [star]; exact h)
theorem laidH_plain (P : Program) (laid : List (String × DataW Unit)) (w : World) (h : (laid.all fun x => x.2.handleName?.isNone) = true) : laidMetH P laid w = laidMet P laid w := by
  have e : (laid.filter fun x => x.2.handleName?.isSome) = [] := by
    rw [List.filter_eq_nil_iff]
    intro x hx hs
    have := List.all_eq_true.1 h x hx
    cases hn : x.2.handleName? with
    | none => rw [hn] at hs; cases hs
    | some s => rw [hn] at this; cases this
  unfold laidMetH
  rw [e]

/-- what the rows list -/
abbrev laidL : List (String × DataW Unit) := [("math/bits.deBruijn32tab", Rows.laid_math_bits_deBruijn32tab), ("math/bits.deBruijn64tab", Rows.laid_math_bits_deBruijn64tab), ("internal/strconv.uint64pow10", Rows.laid_internal_strconv_uint64pow10), ("strconv.ErrRange", Rows.laid_strconv_ErrRange), ("strconv.ErrSyntax", Rows.laid_strconv_ErrSyntax)]

theorem var_below {w w' : World} {n : String} {k : Nat} {A : Nat} (hb : Below A w w') (hg : Tryd.prog.globalNamed n = some k) (hk : k < A) : w'.var? Tryd.prog n = w.var? Tryd.prog n := by
  unfold World.var?
  simp only [hg, Option.bind_some, hb.block k hk]

theorem var_lt {w : World} {n : String} {k : Nat} {cs : Array Value} (h : w.var? Tryd.prog n = some cs) (hg : Tryd.prog.globalNamed n = some k) : k < w.heap.size := by
  unfold World.var? at h
  simp only [hg, Option.bind_some] at h
  rcases Nat.lt_or_ge k w.heap.size with h' | h'
  · exact h'
  · simp [Array.getElem?_eq_none h'] at h

theorem env_of_laid {W : World} (h : laidMetH Tryd.prog laidL W) : Env W.heap.size W := by
  have hm : laidMet Tryd.prog laidL W := by rw [laidH_plain Tryd.prog laidL W rfl] at h; exact h
  obtain ⟨a0, s0, hv0, _⟩ := laid_sentinel hm.tail.tail.tail.tail g0 g0t Tryd.underlying59 row121 Tryd.underlying121 Tryd.underlying123 rfl rfl Tryd.underlying9 (by kernel_rfl) (by kernel_rfl)
  obtain ⟨a1, s1, hv1, _⟩ := laid_sentinel hm.tail.tail.tail g1 g1t Tryd.underlying59 row121 Tryd.underlying121 Tryd.underlying123 rfl rfl Tryd.underlying9 (by kernel_rfl) (by kernel_rfl)
  have ht : Lib.TabIs Tryd.prog W "internal/strconv.uint64pow10" .u64 Lib.pow10Tab := Lib.tabIs_of_head g2 g2t Tryd.underlying114 Tryd.underlying57 (by kernel_rfl) (by kernel_rfl) hm.tail.tail
  exact ⟨Nat.le_refl _, fun w' hb => ⟨by
    have := var_below hb g2 (var_lt ht g2)
    unfold Lib.TabIs at ht ⊢
    rw [this, ht], ⟨_, _, (var_below hb g0 (var_lt hv0 g0)).trans hv0⟩, ⟨_, _, (var_below hb g1 (var_lt hv1 g1)).trans hv1⟩⟩⟩

/-- So many blocks has the settled world. -/
noncomputable def low : Nat := (World.holding Tryd.prog default ⟨#[], #[], []⟩).heap.size
abbrev synS : ByteArray := { data := #[105, 110, 118, 97, 108, 105, 100, 32, 115, 121, 110, 116, 97, 120] }
abbrev rngS : ByteArray := { data := #[118, 97, 108, 117, 101, 32, 111, 117, 116, 32, 111, 102, 32, 114, 97, 110, 103, 101] }
def z32 : Array Value := #[0, 1, 28, 2, 29, 14, 24, 3, 30, 22, 20, 15, 25, 17, 4, 8, 31, 27, 13, 23, 21, 19, 16, 7, 26, 12, 18, 6, 11, 5, 10, 9].map (Value.int .u8)
def z64 : Array Value := #[0, 1, 56, 2, 57, 49, 28, 3, 61, 58, 42, 50, 38, 29, 17, 4, 62, 47, 59, 36, 45, 43, 51, 22, 53, 39, 33, 30, 24, 18, 12, 5, 63, 55, 48, 27, 60, 41, 37, 16, 46, 35, 44, 21, 52, 32, 23, 11, 54, 26, 40, 15, 34, 20, 31, 10, 25, 14, 19, 9, 13, 8, 7, 6].map (Value.int .u8)
def z10 : Array Value := (Lib.pow10Tab.map (Value.int .u64)).toArray
/-- put as the cells of a block -/
def puts (cs : Array Value) : Obj → Obj
  | .cells _ t frozen => .cells cs t frozen
  | o => o
/-- The settled world with two blocks more, each an errors.errorString; the variables as their initialisers lay them. -/
noncomputable def laidWorld (os : Os) : World :=
  let w0 := World.holding Tryd.prog os ⟨#[.cells #[.string synS] 123, .cells #[.string rngS] 123], #[], []⟩
  { w0 with heap := ((((w0.heap.modify 0 (puts #[.iface 121 (.pointer (some ⟨low, 0, none⟩))])).modify 1 (puts #[.iface 121 (.pointer (some ⟨low + 1, 0, none⟩))])).modify 2 (puts z10)).modify 4 (puts z32)).modify 5 (puts z64) }
theorem laidWorld_met (os : Os) (args : Array Value) : laidMetH Tryd.prog laidL ((laidWorld os).forCall (fun _ _ => 0) ⟨#[], args, []⟩).memory := by
  rw [laidH_plain Tryd.prog laidL _ rfl]
  exact laidMet_of_run' 8 (by kernel_rfl) (by kernel_rfl)

end Go.Proofs.YtmgifbibhodbbaaDoor

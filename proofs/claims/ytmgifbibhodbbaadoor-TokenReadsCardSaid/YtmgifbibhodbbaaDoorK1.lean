/- What is asked of both readers. -/
import Derived.Test.YtmgifbibhodbbaaDoorR8
namespace Go.Proofs.YtmgifbibhodbbaaDoor
open Go.RowKit

/-- both readers are in one state -/
structure Both (n₀ g h : Nat) (S : List UInt8) (s : Sta) (w : World) : Prop where
  rd : Rd w g s.1 s.2
  rr : Rr w h S s
  env : Env n₀ w
/-- what asked comes to -/
def AskPost (n₀ g h : Nat) (S : List UInt8) (s' : Sta) (w : World) (e : Ending) (w' : World) : Prop := e = .returned (.bool true) ∧ Both n₀ g h S s' w' ∧ Below n₀ w w'
/-- the first byte of a word, or a blank -/
def fst (v : List UInt8) : UInt8 := match v with | [] => 32 | c :: _ => c
/-- the state behind what is asked -/
def askS (d : Nat) (v : List UInt8) (s : Sta) : Sta := match d with
  | 0 => (pAtom s).2
  | 1 => (pNumber s).2
  | 2 => (pString s).2
  | 3 => (pLit s).2
  | 4 => pMust [32] s
  | 5 => pWord v s
  | 6 => s
  | 7 => (s.1.drop (s.1.takeWhile (fun x => x == fst v)).length, s.2)
  | 8 => ([], true)
  | _ => s
/-- the words ahead of the switch -/
structure Ahead (n₀ g h : Nat) (S : List UInt8) (s : Sta) (d : Int) (v : List UInt8) (w w1 : World) : Prop where
  both : Both n₀ g h S s w1
  ask : Blk w1 w.heap.size 36 #[.int .u8 d, .string (B v)]
  one : Blk w1 (w.heap.size + 1) 5 #[.int .u8 (fst v).toNat]
  below : Below w.heap.size w w1
  size : w.heap.size + 1 < w1.heap.size

theorem Both.below {n₀ g h : Nat} {S : List UInt8} {s : Sta} {w w1 : World} (hb : Both n₀ g h S s w) (k : Below w.heap.size w w1) : Both n₀ g h S s w1 := by
  obtain ⟨a, ha, hr, hs⟩ := hb.rr
  exact ⟨Blk.stay hb.rd k, ⟨a, ha, hr.stay k, hs⟩, hb.env.below k⟩

theorem ahead_nil {n₀ g h : Nat} {S : List UInt8} {s : Sta} {d : Int} {w : World} (hb : Both n₀ g h S s w) :
    Ahead n₀ g h S s d [] w ((w.alloc (.cells #[.int .u8 d, .string (B [])] 36)).alloc (.cells #[.int .u8 32] 5)) := by
  have k : Below w.heap.size w ((w.alloc (.cells #[.int .u8 d, .string (B [])] 36)).alloc (.cells #[.int .u8 32] 5)) := below_alloc (below_alloc (Below.refl _ _) _) _
  refine ⟨hb.below k, (Blk.new w 36 _).alloc _, ?_, k, by simp⟩
  have := Blk.new (w.alloc (.cells #[.int .u8 d, .string (B [])] 36)) 5 #[.int .u8 32]
  simpa [fst] using this

theorem ahead_cons {n₀ g h : Nat} {S : List UInt8} {s : Sta} {d : Int} {c : UInt8} {r : List UInt8} {w : World} (hb : Both n₀ g h S s w) :
    Ahead n₀ g h S s d (c :: r) w ((w.alloc (.cells #[.int .u8 d, .string (B (c :: r))] 36)).alloc (.cells #[.int .u8 c.toNat] 5)) := by
  have k : Below w.heap.size w ((w.alloc (.cells #[.int .u8 d, .string (B (c :: r))] 36)).alloc (.cells #[.int .u8 c.toNat] 5)) := below_alloc (below_alloc (Below.refl _ _) _) _
  refine ⟨hb.below k, (Blk.new w 36 _).alloc _, ?_, k, by simp⟩
  have := Blk.new (w.alloc (.cells #[.int .u8 d, .string (B (c :: r))] 36)) 5 #[.int .u8 c.toNat]
  simpa [fst] using this

theorem Rr.grown {w w' : World} {h : Nat} {S : List UInt8} {s : Sta} {r : Option Nat} (hr : Rr w h S s) (q : w.grownBy w' r) (hne : r ≠ some h) : Rr w' h S s := by
  obtain ⟨a, ha, hb, hs⟩ := hr
  exact ⟨a, ha, Blk.grown hb q hne, hs⟩
theorem grown_undrew {a b : World} {r : Option Nat} (h : a.drew.grownBy b r) : a.grownBy b r := ⟨h.os, h.tape, h.output, h.size, h.block⟩
theorem ask_done {n₀ g h : Nat} {S : List UInt8} {s s' : Sta} {d : Int} {v : List UInt8} {w w1 w2 w3 : World} (hA : Ahead n₀ g h S s d v w w1) (hE : Env n₀ w) (q1 : w1.grownBy w2 (some g)) (q2 : w2.grownBy w3 (some h))
    (rd : Rd w2 g s'.1 s'.2) (rr : Rr w3 h S s') (hg : n₀ ≤ g) (hh : n₀ ≤ h) (hne : g ≠ h) : Both n₀ g h S s' w3 ∧ Below n₀ w w3 := by
  have b1 : Below n₀ w w1 := hA.below.mono hE.le
  have b2 : Below n₀ w1 w2 := below_of_grown q1 (Nat.le_trans hE.le b1.size) (fun k e => by cases e; exact hg)
  have b3 : Below n₀ w2 w3 := below_of_grown q2 (Nat.le_trans hE.le (Nat.le_trans b1.size b2.size)) (fun k e => by cases e; exact hh)
  have b := (b1.trans b2).trans b3
  exact ⟨⟨Blk.grown rd q2 (by simp; omega), rr, hE.on b⟩, b⟩

end Go.Proofs.YtmgifbibhodbbaaDoor

/- The plain model of a feed: what came of a command, and what the next byte makes of it. -/
import Derived.Test.YtmgifbibhodbbaaDoorT6
import Derived.Test.YtmgifbibhodbbaaDoorP1
import Derived.Lib.LastIndexByte
import Derived.Lib.Strings
namespace Go.Proofs.YtmgifbibhodbbaaDoor
open Go.RowKit

/-- a feed: mode 0: a line, 1: a literal, 2: a line that is too long -/
structure FS where
  s : List UInt8
  from_ : Nat
  own : Nat
  all : Nat
  left : Nat
  last : Nat
  mode : Nat
def FS.new : FS := ⟨[], 0, 0, 0, 0, 0, 0⟩
/-- what is told of a byte -/
abbrev Told := Option (Nat × List UInt8)

/-- the place of the last opening brace -/
def braceI (l : List UInt8) : Int := Lib.lastIndexByte (B l) 123
def headNo (l : List UInt8) : Bool := decide (braceI l < 0) || !(Lib.hasSuffix l [125])
/-- what stands between the braces -/
def headT (l : List UInt8) : List UInt8 := (l.drop ((braceI l).toNat + 1)).take (l.length - 1 - ((braceI l).toNat + 1))
/-- the number of a literal's head at the end of a text -/
def headP (l : List UInt8) : Nat × Bool :=
  if headNo l then (0, false) else ((pNumber (headT l, false)).1, !(pNumber (headT l, false)).2.2 && (pNumber (headT l, false)).2.1.isEmpty)

/-- a line ends -/
def endF (st : FS) : FS × Told :=
  if (headP ((st.s.drop st.from_).take (st.s.length - 2 - st.from_))).2 = false then (FS.new, some (0, st.s.take (st.s.length - 2)))
  else if 65536 < st.all + (headP ((st.s.drop st.from_).take (st.s.length - 2 - st.from_))).1 then (FS.new, some (2, st.s.take (st.s.length - 2)))
  else ({ st with all := st.all + (headP ((st.s.drop st.from_).take (st.s.length - 2 - st.from_))).1, left := (headP ((st.s.drop st.from_).take (st.s.length - 2 - st.from_))).1,
                  from_ := st.s.length + (headP ((st.s.drop st.from_).take (st.s.length - 2 - st.from_))).1,
                  mode := if 0 < (headP ((st.s.drop st.from_).take (st.s.length - 2 - st.from_))).1 then 1 else st.mode }, some (1, []))
/-- a byte of a line -/
def lineF (st : FS) (x : UInt8) : FS × Told :=
  if st.last = 13 ∧ x = 10 then endF { st with s := st.s ++ [x], own := st.own + 1, last := 0 }
  else if 8192 < st.own + 1 then ({ st with s := [], own := st.own + 1, last := x.toNat, mode := 2 }, some (3, st.s ++ [x]))
  else ({ st with s := st.s ++ [x], own := st.own + 1, last := x.toNat }, none)
/-- a byte of a literal -/
def litF (st : FS) (x : UInt8) : FS × Told := ({ st with s := st.s ++ [x], left := st.left - 1, mode := if st.left = 1 then 0 else st.mode }, none)
/-- a byte of a line that is too long -/
def skipF (st : FS) (x : UInt8) : FS × Told := if st.last = 13 ∧ x = 10 then (FS.new, none) else ({ st with last := x.toNat }, none)
/-- a byte -/
def stepF (st : FS) (x : UInt8) : FS × Told := if st.mode = 0 then lineF st x else if st.mode = 1 then litF st x else skipF st x
/-- bytes: the feed then, the pieces that are told -/
def takeF (st : FS) (l : List UInt8) : FS × List (Nat × List UInt8) :=
  l.foldl (fun p x => ((stepF p.1 x).1, p.2 ++ (stepF p.1 x).2.toList)) (st, [])

/-- what holds of a feed that so many bytes came to -/
structure FS.ok (N : Nat) (st : FS) : Prop where
  mode : st.mode ≤ 2
  len : st.s.length ≤ N
  last : st.last < 256
  all : st.all ≤ 65536
  own : st.own ≤ N
  line : st.mode = 0 → st.from_ ≤ st.s.length ∧ (st.last = 13 → st.from_ + 1 ≤ st.s.length)
  lit : st.mode = 1 → 1 ≤ st.left ∧ st.left ≤ 65536 ∧ st.s.length + st.left = st.from_ ∧ st.last = 0
  from_ : st.from_ ≤ N + 65536
  left : st.left ≤ 65536

theorem FS.ok_new (N : Nat) : FS.ok N FS.new := ⟨by simp [FS.new], by simp [FS.new], by simp [FS.new], by simp [FS.new], by simp [FS.new], fun _ => by simp [FS.new], fun h => by simp [FS.new] at h, by simp [FS.new], by simp [FS.new]⟩
theorem FS.ok_more {N M : Nat} {st : FS} (h : FS.ok N st) (hm : N ≤ M) : FS.ok M st :=
  ⟨h.mode, Nat.le_trans h.len hm, h.last, h.all, Nat.le_trans h.own hm, h.line, h.lit, by have := h.from_; omega, h.left⟩

theorem endF_ok {N : Nat} {st : FS} (hm : st.mode = 0) (hl : st.last = 0) (hlen : st.s.length ≤ N) (ho : st.own ≤ N) : FS.ok N (endF st).1 := by
  unfold endF
  generalize headP ((st.s.drop st.from_).take (st.s.length - 2 - st.from_)) = p
  by_cases h1 : p.2 = false
  · rw [if_pos h1]; exact FS.ok_new N
  · rw [if_neg h1]
    by_cases h2 : 65536 < st.all + p.1
    · rw [if_pos h2]; exact FS.ok_new N
    · rw [if_neg h2]
      refine ⟨?_, hlen, ?_, ?_, ho, ?_, ?_, ?_, ?_⟩
      · show (if 0 < p.1 then 1 else st.mode) ≤ 2; split <;> omega
      · show st.last < 256; omega
      · show st.all + p.1 ≤ 65536; omega
      · intro h
        have hp : p.1 = 0 := by
          by_cases h0 : 0 < p.1
          · have h' : (if 0 < p.1 then 1 else st.mode) = 0 := h
            rw [if_pos h0] at h'; cases h'
          · omega
        exact ⟨by show st.s.length + p.1 ≤ st.s.length; omega, fun h13 => by have : st.last = 13 := h13; omega⟩
      · intro h
        have h0 : 0 < p.1 := by
          by_cases h0 : 0 < p.1
          · exact h0
          · have h' : (if 0 < p.1 then 1 else st.mode) = 1 := h
            rw [if_neg h0, hm] at h'; cases h'
        exact ⟨h0, by show p.1 ≤ 65536; omega, rfl, hl⟩
      · show st.s.length + p.1 ≤ N + 65536; omega
      · show p.1 ≤ 65536; omega

theorem stepF_ok {N : Nat} {st : FS} (h : FS.ok N st) (x : UInt8) : FS.ok (N + 1) (stepF st x).1 := by
  have hx := UInt8.toNat_lt x
  unfold stepF
  by_cases h0 : st.mode = 0
  · rw [if_pos h0]
    unfold lineF
    obtain ⟨hf, hf13⟩ := h.line h0
    have hlen := h.len; have hown := h.own
    by_cases h1 : st.last = 13 ∧ x = 10
    · rw [if_pos h1]
      exact endF_ok h0 rfl (by simp; omega) (by show st.own + 1 ≤ N + 1; omega)
    · rw [if_neg h1]
      by_cases h2 : 8192 < st.own + 1
      · rw [if_pos h2]
        exact ⟨by simp, by simp, by simpa using hx, h.all, by show st.own + 1 ≤ N + 1; omega, fun h => by simp at h, fun h => by simp at h, by have := h.from_; show st.from_ ≤ N + 1 + 65536; omega, h.left⟩
      · rw [if_neg h2]
        refine ⟨h.mode, by simp; omega, by simpa using hx, h.all, by show st.own + 1 ≤ N + 1; omega, fun _ => ⟨by simp; omega, fun _ => by simp; omega⟩, fun hm => ?_, by have := h.from_; show st.from_ ≤ N + 1 + 65536; omega, h.left⟩
        have : st.mode = 1 := hm
        omega
  · rw [if_neg h0]
    by_cases h1 : st.mode = 1
    · rw [if_pos h1]
      obtain ⟨l1, l2, l3, l4⟩ := h.lit h1
      have hlen := h.len; have hown := h.own
      unfold litF
      refine ⟨?_, by simp; omega, h.last, h.all, by show st.own ≤ N + 1; omega, fun hm => ?_, fun hm => ?_, by have := h.from_; show st.from_ ≤ N + 1 + 65536; omega, by show st.left - 1 ≤ 65536; omega⟩
      · show (if st.left = 1 then 0 else st.mode) ≤ 2; split <;> omega
      · have hl1 : st.left = 1 := by
          by_cases hl : st.left = 1
          · exact hl
          · have h' : (if st.left = 1 then 0 else st.mode) = 0 := hm
            rw [if_neg hl] at h'; omega
        exact ⟨by show st.from_ ≤ (st.s ++ [x]).length; simp; omega, fun h13 => by have : st.last = 13 := h13; omega⟩
      · have hl1 : st.left ≠ 1 := by
          intro hl
          have h' : (if st.left = 1 then 0 else st.mode) = 1 := hm
          rw [if_pos hl] at h'; cases h'
        exact ⟨by show 1 ≤ st.left - 1; omega, by show st.left - 1 ≤ 65536; omega, by show (st.s ++ [x]).length + (st.left - 1) = st.from_; simp; omega, l4⟩
    · rw [if_neg h1]
      unfold skipF
      by_cases h2 : st.last = 13 ∧ x = 10
      · rw [if_pos h2]; exact FS.ok_new _
      · rw [if_neg h2]
        have hlen := h.len; have hown := h.own
        exact ⟨h.mode, by show st.s.length ≤ N + 1; omega, by simpa using hx, h.all, by show st.own ≤ N + 1; omega, fun hm => absurd hm h0, fun hm => absurd hm h1, by have := h.from_; show st.from_ ≤ N + 1 + 65536; omega, h.left⟩

theorem takeF_nil (st : FS) : takeF st [] = (st, []) := rfl
theorem takeF_snoc (st : FS) (l : List UInt8) (x : UInt8) : takeF st (l ++ [x]) = ((stepF (takeF st l).1 x).1, (takeF st l).2 ++ (stepF (takeF st l).1 x).2.toList) := by
  simp [takeF]
theorem takeF_foldl (l : List UInt8) : ∀ (st : FS) (acc : List (Nat × List UInt8)), l.foldl (fun p x => ((stepF p.1 x).1, p.2 ++ (stepF p.1 x).2.toList)) (st, acc) = ((takeF st l).1, acc ++ (takeF st l).2) := by
  induction l with
  | nil => intro st acc; simp [takeF]
  | cons x r ih =>
    intro st acc
    simp only [takeF, List.foldl_cons]
    rw [ih, ih]
    simp
theorem takeF_append (st : FS) (l m : List UInt8) : takeF st (l ++ m) = ((takeF (takeF st l).1 m).1, (takeF st l).2 ++ (takeF (takeF st l).1 m).2) := by
  have h : takeF st (l ++ m) = m.foldl (fun p x => ((stepF p.1 x).1, p.2 ++ (stepF p.1 x).2.toList)) (takeF st l) := by simp [takeF]
  rw [h]
  exact takeF_foldl m (takeF st l).1 (takeF st l).2
theorem takeF_ok {N : Nat} {st : FS} (h : FS.ok N st) (l : List UInt8) : FS.ok (N + l.length) (takeF st l).1 := by
  refine snoc_ind (P := fun l => FS.ok (N + l.length) (takeF st l).1) (by simpa [takeF] using h) (fun r c ih => ?_) l
  rw [takeF_snoc]
  have := stepF_ok ih c
  simpa [Nat.add_assoc] using this

end Go.Proofs.YtmgifbibhodbbaaDoor

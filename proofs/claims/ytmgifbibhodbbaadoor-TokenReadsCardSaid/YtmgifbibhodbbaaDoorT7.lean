/- The contracts of Reader.quoted and String. -/
import Derived.Test.YtmgifbibhodbbaaDoorT4
import Derived.Test.YtmgifbibhodbbaaDoorT6
import Derived.Deep.LoopGhost
namespace Go.Proofs.YtmgifbibhodbbaaDoor
open Go.RowKit

/-- a builder stays where blocks below it are written -/
theorem builder_grown {w w' : World} {A b : Nat} {p : Value} {bs : List Value} {r : Option Nat} (h : Lib.BuilderAt 80 5 A b p bs w) (hg : w.grownBy w' r) (hr : ∀ g, r = some g → g < A) : Lib.BuilderAt 80 5 A b p bs w' := by
  have hlt := h.lt
  obtain ⟨hB, v, hb, hown, hne⟩ := h
  refine ⟨hB, v, (hg.block b hlt (fun e => by have := hr b e.symm; omega)).trans hb, hown.kept hg ?_, hne⟩
  cases hv : v.ownBlock with
  | none => left; rfl
  | some k =>
    right
    intro e
    have h1 := (hown.lt k hv).1
    have := hr k e.symm
    omega
theorem isBuilder_grown {w w' : World} {A b : Nat} {bs : List Value} {r : Option Nat} (h : Lib.IsBuilder 80 5 A b bs w) (hg : w.grownBy w' r) (hr : ∀ g, r = some g → g < A) : Lib.IsBuilder 80 5 A b bs w' :=
  h.imp (fun h => builder_grown h hg hr) (fun h => builder_grown h hg hr)

theorem strCells_B (l : List UInt8) : Lib.strCells (B l) = Lib.byteCells l := by
  simp [Lib.strCells, Lib.byteCells, B]

theorem grown_belowA {a b c : World} {r : Option Nat} {A : Nat} (h : a.grownBy b r) (k : Below A b c) (hA : a.heap.size ≤ A) : a.grownBy c r :=
  ⟨k.os.trans h.os, k.tape.trans h.tape, k.output.trans h.output, Nat.le_trans h.size k.size, fun i hi hne => (k.block i (by omega)).trans (h.block i hi hne)⟩

theorem write_one (acc : List UInt8) (d : UInt8) (t : List UInt8) : Lib.byteCells acc ++ Lib.strCells (B (List.take 1 (d :: t))) = Lib.byteCells (acc ++ [d]) := by
  rw [strCells_B]; simp [Lib.byteCells]

/-- what comes of the rest of a quoted text, behind some of it -/
def qrest (s : Sta) (acc : List UInt8) : Option (List UInt8 × List UInt8) := if s.2 then none else (qscan s.1).map (fun x => (acc ++ x.1, x.2))

/-- what quoted comes to -/
def qend (res : Option (List UInt8 × List UInt8)) : List UInt8 × Sta := match res with
  | some x => (x.1, (x.2, false))
  | none => ([], ([], true))
theorem pQuoted_eq (r : List UInt8) : pQuoted (34 :: r, false) = qend (qscan r) := by unfold pQuoted qend; rfl

/-- the words of the loop's relation -/
structure QRel (g b A : Nat) (w : World) (res : Option (List UInt8 × List UInt8)) (k : Nat) (s : Sta) (acc : List UInt8) (X : World) : Prop where
  rd : Rd X g s.1 s.2
  bld : Lib.IsBuilder 80 5 A b (Lib.byteCells acc) X
  size : A ≤ X.heap.size
  grown : w.grownBy X (some g)
  res : qrest s acc = res
  ok : s.ok
  len : s.1.length ≤ k
  all : acc.length + s.1.length ≤ 1048576

theorem next_at (g : Nat) (l : List UInt8) (f : Bool) (c : UInt8) (n : Int) (hc : n = (c.toNat : Int)) (b : Bool) (hb : nextB c (l, f) = b) (w : World) (hl : l.length ≤ 1048576) (hr : Rd w g l f) :
    Calls Tryd.prog 18 #[.pointer (some ⟨g, 0, none⟩), .int .u8 n] w fun e w' => e = .returned (.bool b) ∧ w = w' := by
  subst hc; subst hb
  exact next_any g l f c w (by unfold maxLen; omega) hr
theorem fail_at (g : Nat) (s : Sta) (w : World) (hr : Rd w g s.1 s.2) :
    Calls Tryd.prog 35 #[.pointer (some ⟨g, 0, none⟩), .bool false] w fun e w' => e = .returned (.tuple #[]) ∧ Rd w' g [] true ∧ w.grownBy w' (some g) := by
  exact need_any g s.1 s.2 false w hr
theorem keep_at (g : Nat) (s : Sta) (w : World) (hr : Rd w g s.1 s.2) :
    Calls Tryd.prog 35 #[.pointer (some ⟨g, 0, none⟩), .bool true] w fun e w' => e = .returned (.tuple #[]) ∧ Rd w' g s.1 s.2 ∧ w.grownBy w' (some g) := by
  exact need_any g s.1 s.2 true w hr

theorem index_at : ∀ n : Nat, n < 256 → (decide (Lib.indexByte [13, 10] (UInt8.ofNat n) < 0)) = !(UInt8.ofNat n == 13 || UInt8.ofNat n == 10) := by decide +kernel
theorem ends_index (c : UInt8) : (decide (Lib.indexByte [13, 10] c < 0)) = !(c == 13 || c == 10) := by
  have := index_at c.toNat (UInt8.toNat_lt c)
  rwa [UInt8.ofNat_toNat] at this
theorem index_lt {c : UInt8} {b : Bool} (h : (!(c == 13 || c == 10)) = b) : decide (Lib.indexByte [13, 10] c < 0) = b := by rw [ends_index]; exact h

theorem qscan_cons (c : UInt8) (r : List UInt8) : qscan (c :: r) =
    if c = 34 then some ([], r)
    else if c = 13 ∨ c = 10 then none
    else if c = 92 then
      match r with
      | [] => none
      | d :: r' => if d = 34 ∨ d = 92 then (qscan r').map (fun x => (d :: x.1, x.2)) else none
    else (qscan r).map (fun x => (c :: x.1, x.2)) := by
  rw [qscan.eq_def]; rfl

theorem qrest_nil (f : Bool) (acc : List UInt8) : qrest ([], f) acc = none := by cases f <;> simp [qrest, qscan]
theorem qrest_failed (l acc : List UInt8) : qrest (l, true) acc = none := by simp [qrest]
theorem qrest_quote (t acc : List UInt8) : qrest (34 :: t, false) acc = some (acc, t) := by simp [qrest, qscan_cons]
theorem qrest_ends (c : UInt8) (t acc : List UInt8) (h : c = 13 ∨ c = 10) : qrest (c :: t, false) acc = none := by
  rcases h with rfl | rfl <;> simp [qrest, qscan_cons]
theorem qrest_one (c : UInt8) (t acc : List UInt8) (h1 : c ≠ 34) (h2 : ¬ (c = 13 ∨ c = 10)) (h3 : c ≠ 92) : qrest (c :: t, false) acc = qrest (t, false) (acc ++ [c]) := by
  simp only [qrest, qscan_cons]
  rw [if_neg h1, if_neg h2, if_neg h3]
  simp [Function.comp_def]
theorem qrest_two (d : UInt8) (t acc : List UInt8) (h : d = 34 ∨ d = 92) : qrest (92 :: d :: t, false) acc = qrest (t, false) (acc ++ [d]) := by
  simp only [qrest]
  rw [if_neg (by simp), qscan_cons, if_neg (by decide), if_neg (by decide), if_pos rfl]
  dsimp only
  rw [if_pos h]
  simp [Function.comp_def]
theorem qrest_bad (d : UInt8) (t acc : List UInt8) (h : ¬ (d = 34 ∨ d = 92)) : qrest (92 :: d :: t, false) acc = none := by
  simp only [qrest]
  rw [if_neg (by simp), qscan_cons, if_neg (by decide), if_neg (by decide), if_pos rfl]
  dsimp only
  rw [if_neg h]
  simp
theorem qrest_end (acc : List UInt8) : qrest ([92], false) acc = none := by simp [qrest, qscan_cons]

set_option maxHeartbeats 1600000 in
set_option maxRecDepth 100000 in
theorem quoted_any (g : Nat) (r : List UInt8) (w : World) (hl : r.length ≤ 1048575) (hr : Rd w g (34 :: r) false) :
    Calls Tryd.prog 39 #[.pointer (some ⟨g, 0, none⟩)] w fun e w' => e = .returned (.string (B (pQuoted (34 :: r, false)).1)) ∧ Rd w' g (pQuoted (34 :: r, false)).2.1 (pQuoted (34 :: r, false)).2.2 ∧ w.grownBy w' (some g) := by
  have HR := Lib.hid hr; clear hr
  obtain ⟨res, hres⟩ : ∃ res, qscan r = res := ⟨_, rfl⟩
  have hp : pQuoted (34 :: r, false) = qend res := by rw [← hres]; exact pQuoted_eq r
  have HP := Lib.hid hp
  have HQ := Lib.hid hres
  clear hp hres
  go_enter Tryd.func39, Tryd.ntmps39
  go_wp2_with fail
  refine (take_any g (34 :: r) false 1 _ (by unfold maxLen; simp; omega) (by simp) HR.out).mono ?_
  rintro e w1 ⟨rfl, h1, g1⟩
  have H1 := Lib.hid h1; clear h1
  go_wp2_with fail
  obtain ⟨w2, hw2⟩ : ∃ w2, w1.alloc (.cells #[.pointer none, .slice none 0 0] 80) = w2 := ⟨_, rfl⟩
  have hrel0 : QRel g w1.heap.size w1.heap.size w res r.length (r, false) [] w2 := by
    rw [← hw2]
    exact ⟨H1.out.alloc _, Lib.fresh_isBuilder 80 5 w1, by simp, grown_alloc g1 _, by simp [qrest, HQ.out], fun h => by simp at h, Nat.le_refl _, by simp; omega⟩
  have hgA : g < w1.heap.size := H1.out.lt
  have hwA : w.heap.size ≤ w1.heap.size := g1.size
  rw [hw2]
  have HREL := Lib.hid hrel0
  clear hrel0 hw2
  generalize hA : w1.heap.size = A at *
  clear hA
  go_loopg [] r.length (fun k wr => ∃ s acc, QRel g A A w res k s acc wr)
  case atStart => exact ⟨_, _, HREL.out⟩
  case round =>
    obtain ⟨⟨l, f⟩, acc, hq⟩ := hrel
    have HX := Lib.hid hq
    have hlen : l.length ≤ 1048576 := by have := hq.all; simp only at this; omega
    have c0 : wr.cell? ⟨g, 0, none⟩ = some (.string (B l)) := hq.rd.cell 0
    clear hq
    rcases l with _ | ⟨c, t⟩
    · -- nothing is left
      have hres : res = none := by rw [← HX.out.res]; exact qrest_nil f acc
      have e1 : wordB [34] ([], f) = false := wordB_short [34] [] f (by simp)
      have e2 : pWord [34] ([], f) = ([], f) := by unfold pWord; rw [if_neg (by rw [e1]; simp)]
      have hw : Calls Tryd.prog 17 #[.pointer (some ⟨g, 0, none⟩), .string (B [34])] wr fun e w' => e = .returned (.bool false) ∧ Rd w' g [] f ∧ wr.grownBy w' (some g) := by
        have := word_any g [34] [] f wr hlen (by simp) HX.out.rd
        rwa [e1, e2] at this
      have HW := Lib.hid hw; have HRES := Lib.hid hres
      clear hw e1 e2 hres
      go_wp2_with fail
      refine HW.out.mono ?_
      rintro e x1 ⟨rfl, k1, q1⟩
      go_wp2_with fail
      refine (fail_at g ([], f) _ k1).mono ?_
      rintro e x2 ⟨rfl, k2, q2⟩
      have d1 : x2.cell? ⟨g, 1, none⟩ = some (.bool true) := k2.cell 1
      have K2 := Lib.hid k2; clear k2 k1
      go_wp2_with fail
      go_ret
      rw [HP.out, HRES.out]
      exact ⟨rfl, K2.out, grown_then (grown_then HX.out.grown q1) q2⟩
    · have hf : f = false := by
        cases f with
        | false => rfl
        | true => have := HX.out.ok rfl; simp at this
      subst hf
      by_cases h34 : c = 34
      · -- the quote
        subst h34
        have hres : res = some (acc, t) := by rw [← HX.out.res]; exact qrest_quote t acc
        have hnx := next_at g (34 :: t) false 34 34 rfl true (by simp [nextB]) wr hlen HX.out.rd
        have e1 : wordB [34] (34 :: t, false) = true := by rw [wordB_eq _ _ (by simp)]; simp
        have e2 : pWord [34] (34 :: t, false) = (t, false) := by unfold pWord; rw [if_pos e1]; simp
        have hw : Calls Tryd.prog 17 #[.pointer (some ⟨g, 0, none⟩), .string (B [34])] wr fun e w' => e = .returned (.bool true) ∧ Rd w' g t false ∧ wr.grownBy w' (some g) := by
          have := word_any g [34] (34 :: t) false wr hlen (by simp) HX.out.rd
          rwa [e1, e2] at this
        have HW := Lib.hid hw; have HRES := Lib.hid hres; have HN := Lib.hid hnx
        clear hw e1 e2 hres hnx
        go_wp2_with fail
        refine HN.out.mono ?_
        rintro e x0 ⟨rfl, rfl⟩
        go_wp2_with fail
        refine HW.out.mono ?_
        rintro e x1 ⟨rfl, k1, q1⟩
        go_wp2_with fail
        refine (keep_at g (t, false) _ k1).mono ?_
        rintro e x2 ⟨rfl, k2, q2⟩
        have d1 : x2.cell? ⟨g, 1, none⟩ = some (.bool false) := k2.cell 1
        have K2 := Lib.hid k2; clear k2 k1
        have q := grown_then q1 q2
        have hbd := isBuilder_grown HX.out.bld q (fun k e => by cases e; exact hgA)
        have HBD := Lib.hid hbd; clear hbd
        go_wp2_with fail
        refine (Tryd.Builder_String_any A A acc x2 HBD.out (Nat.le_trans HX.out.size q.size)).mono ?_
        rintro e x3 ⟨rfl, hb3⟩
        go_wp2_with fail
        go_ret
        rw [HP.out, HRES.out]
        exact ⟨rfl, Blk.below K2.out hb3 hgA, grown_belowA (grown_then HX.out.grown q) hb3 hwA⟩
      · have hnx := next_at g (c :: t) false 34 34 rfl false (by simp [nextB, h34]) wr hlen HX.out.rd
        have HN := Lib.hid hnx
        have H34 := Lib.hid h34
        clear hnx h34
        have htl : t.length ≤ 1048576 := by simp at hlen; omega
        by_cases h92 : c = 92
        · subst h92
          have hn2 := next_at g (92 :: t) false 92 92 rfl true (by simp [nextB]) wr hlen HX.out.rd
          have htk := take_any g (92 :: t) false 1 wr (by unfold maxLen; omega) (by simp) HX.out.rd
          have HN2 := Lib.hid hn2; have HT := Lib.hid htk
          clear hn2 htk
          have hacc := HX.out.res
          rcases t with _ | ⟨d, t⟩
          · rw [qrest_end acc] at hacc
            have HRES := Lib.hid hacc.symm
            clear hacc
            go_wp2_with fail
            refine HN.out.mono ?_
            rintro e x0 ⟨rfl, rfl⟩
            go_wp2_with fail
            refine HN2.out.mono ?_
            rintro e x0 ⟨rfl, rfl⟩
            go_wp2_with fail
            refine HT.out.mono ?_
            rintro e x1 ⟨rfl, k1, q1⟩

            have k1 : Rd x1 g [] false := k1
            have KF := Lib.hid k1
            have n1 := next_at g [] false 34 34 rfl false rfl x1 (by simp) k1
            have n2 := next_at g [] false 92 92 rfl false rfl x1 (by simp) k1
            have N1 := Lib.hid n1; have N2 := Lib.hid n2
            clear n1 n2 k1
            go_wp2_with fail
            refine N1.out.mono ?_
            rintro e x0 ⟨rfl, rfl⟩
            go_wp2_with fail
            refine N2.out.mono ?_
            rintro e x0 ⟨rfl, rfl⟩
            go_wp2_with fail
            refine (fail_at g ([], false) _ KF.out).mono ?_
            rintro e x2 ⟨rfl, kf, qf⟩
            have q1 := grown_then q1 qf

            have c1 : x2.cell? ⟨g, 0, none⟩ = some (.string (B [])) := kf.cell 0
            have KA := Lib.hid kf
            clear kf
            go_wp2_with fail
            refine (fail_at g ([], true) _ KA.out).mono ?_
            rintro e y2 ⟨rfl, k2, q2⟩
            have c2 : y2.cell? ⟨g, 0, none⟩ = some (.string (B [])) := k2.cell 0
            have K2 := Lib.hid k2
            clear k2
            have q3 := grown_then q1 q2
            have hlk := HX.out.len
            simp only [List.length_cons] at hlk
            go_wp2_with fail
            go_roundg (gk - 1)
            case measure => omega
            case rel => exact ⟨([], true), acc, K2.out, isBuilder_grown HX.out.bld q3 (fun k e => by cases e; exact hgA), Nat.le_trans HX.out.size q3.size, grown_then HX.out.grown q3, by rw [HRES.out]; exact qrest_nil true acc, fun _ => rfl, by simp, by have := HX.out.all; simp at this ⊢; omega⟩
          · by_cases hd : d = 34 ∨ d = 92
            · rw [qrest_two d t acc hd] at hacc
              have HRES := Lib.hid hacc
              have hends : decide (Lib.indexByte [13, 10] d < 0) = true := index_lt (by rcases hd with rfl | rfl <;> rfl)
              have htl' : (d :: t).length ≤ 1048576 := htl
              clear hacc
              go_wp2_with fail
              refine HN.out.mono ?_
              rintro e x0 ⟨rfl, rfl⟩
              go_wp2_with fail
              refine HN2.out.mono ?_
              rintro e x0 ⟨rfl, rfl⟩
              go_wp2_with fail
              refine HT.out.mono ?_
              rintro e x1 ⟨rfl, k1, q1⟩

              have k1 : Rd x1 g (d :: t) false := k1
              have KF := Lib.hid k1
              clear k1
              by_cases h3 : d = 34
              · have n1 := next_at g (d :: t) false 34 34 rfl true (by simp [nextB, h3]) x1 htl' KF.out
                have N1 := Lib.hid n1
                clear n1 hd h3
                go_wp2_with fail
                refine N1.out.mono ?_
                rintro e x0 ⟨rfl, rfl⟩
                go_wp2_with fail
                refine (keep_at g (d :: t, false) _ KF.out).mono ?_
                rintro e x2 ⟨rfl, kf, qf⟩
                have kf : Rd x2 g (d :: t) false := kf
                have q1 := grown_then q1 qf

                have c1 : x2.cell? ⟨g, 0, none⟩ = some (.string (B (d :: t))) := kf.cell 0
                have KA := Lib.hid kf
                clear kf
                go_wp2_with (go_at_call 55; refine (Tryd.strings_IndexByte _ _ _).mono ?_; rintro e y ⟨rfl, rfl⟩)
                refine (keep_at g (d :: t, false) _ KA.out).mono ?_
                rintro e y2 ⟨rfl, k2, q2⟩
                have c2 : y2.cell? ⟨g, 0, none⟩ = some (.string (B (d :: t))) := k2.cell 0
                have K2 := Lib.hid k2
                clear k2
                go_wp2_with fail
                refine (take_any g (d :: t) false 1 _ (by unfold maxLen; omega) (by simp) K2.out).mono ?_
                rintro e y3 ⟨rfl, k3, q3⟩
                have k3 : Rd y3 g t false := k3
                have K3 := Lib.hid k3
                clear k3
                have q3 := grown_then (grown_then q1 q2) q3
                have hbd := isBuilder_grown HX.out.bld q3 (fun k e => by cases e; exact hgA)
                have HBD := Lib.hid hbd
                have hall := HX.out.all
                have hlk := HX.out.len
                simp only [List.length_cons] at hall hlk
                clear hbd
                go_wp2_with fail
                refine (writeString_any A A (Lib.byteCells acc) (B (List.take 1 (d :: t))) _ HBD.out (by rw [B_size, Lib.byteCells_length]; simp; omega) (Nat.le_trans HX.out.size q3.size)).mono ?_
                rintro e y4 ⟨rfl, hb4, hB4⟩
                go_wp2_with fail
                go_roundg (gk - 1)
                case measure => omega
                case rel => exact ⟨(t, false), acc ++ [d], Blk.below K3.out hB4 hgA, .inr (by rw [write_one] at hb4; exact hb4), Nat.le_trans (Nat.le_trans HX.out.size q3.size) hB4.size, grown_belowA (grown_then HX.out.grown q3) hB4 hwA, HRES.out, fun h => by simp at h, by simp only; omega, by simp; omega⟩
              · have h4 : d = 92 := hd.resolve_left h3
                have n1 := next_at g (d :: t) false 34 34 rfl false (by simp [nextB, h3]) x1 htl' KF.out
                have n2 := next_at g (d :: t) false 92 92 rfl true (by simp [nextB, h4]) x1 htl' KF.out
                have N1 := Lib.hid n1; have N2 := Lib.hid n2
                clear n1 n2 hd h3 h4
                go_wp2_with fail
                refine N1.out.mono ?_
                rintro e x0 ⟨rfl, rfl⟩
                go_wp2_with fail
                refine N2.out.mono ?_
                rintro e x0 ⟨rfl, rfl⟩
                go_wp2_with fail
                refine (keep_at g (d :: t, false) _ KF.out).mono ?_
                rintro e x2 ⟨rfl, kf, qf⟩
                have kf : Rd x2 g (d :: t) false := kf
                have q1 := grown_then q1 qf

                have c1 : x2.cell? ⟨g, 0, none⟩ = some (.string (B (d :: t))) := kf.cell 0
                have KA := Lib.hid kf
                clear kf
                go_wp2_with (go_at_call 55; refine (Tryd.strings_IndexByte _ _ _).mono ?_; rintro e y ⟨rfl, rfl⟩)
                refine (keep_at g (d :: t, false) _ KA.out).mono ?_
                rintro e y2 ⟨rfl, k2, q2⟩
                have c2 : y2.cell? ⟨g, 0, none⟩ = some (.string (B (d :: t))) := k2.cell 0
                have K2 := Lib.hid k2
                clear k2
                go_wp2_with fail
                refine (take_any g (d :: t) false 1 _ (by unfold maxLen; omega) (by simp) K2.out).mono ?_
                rintro e y3 ⟨rfl, k3, q3⟩
                have k3 : Rd y3 g t false := k3
                have K3 := Lib.hid k3
                clear k3
                have q3 := grown_then (grown_then q1 q2) q3
                have hbd := isBuilder_grown HX.out.bld q3 (fun k e => by cases e; exact hgA)
                have HBD := Lib.hid hbd
                have hall := HX.out.all
                have hlk := HX.out.len
                simp only [List.length_cons] at hall hlk
                clear hbd
                go_wp2_with fail
                refine (writeString_any A A (Lib.byteCells acc) (B (List.take 1 (d :: t))) _ HBD.out (by rw [B_size, Lib.byteCells_length]; simp; omega) (Nat.le_trans HX.out.size q3.size)).mono ?_
                rintro e y4 ⟨rfl, hb4, hB4⟩
                go_wp2_with fail
                go_roundg (gk - 1)
                case measure => omega
                case rel => exact ⟨(t, false), acc ++ [d], Blk.below K3.out hB4 hgA, .inr (by rw [write_one] at hb4; exact hb4), Nat.le_trans (Nat.le_trans HX.out.size q3.size) hB4.size, grown_belowA (grown_then HX.out.grown q3) hB4 hwA, HRES.out, fun h => by simp at h, by simp only; omega, by simp; omega⟩
            · rw [qrest_bad d t acc hd] at hacc
              have HRES := Lib.hid hacc.symm
              have htl' : (d :: t).length ≤ 1048576 := htl
              clear hacc
              go_wp2_with fail
              refine HN.out.mono ?_
              rintro e x0 ⟨rfl, rfl⟩
              go_wp2_with fail
              refine HN2.out.mono ?_
              rintro e x0 ⟨rfl, rfl⟩
              go_wp2_with fail
              refine HT.out.mono ?_
              rintro e x1 ⟨rfl, k1, q1⟩

              have k1 : Rd x1 g (d :: t) false := k1
              have KF := Lib.hid k1
              clear k1
              have n1 := next_at g (d :: t) false 34 34 rfl false (by simp only [nextB]; simp; exact fun e => hd (.inl e)) x1 htl' KF.out
              have n2 := next_at g (d :: t) false 92 92 rfl false (by simp only [nextB]; simp; exact fun e => hd (.inr e)) x1 htl' KF.out
              have N1 := Lib.hid n1; have N2 := Lib.hid n2
              clear n1 n2 hd
              go_wp2_with fail
              refine N1.out.mono ?_
              rintro e x0 ⟨rfl, rfl⟩
              go_wp2_with fail
              refine N2.out.mono ?_
              rintro e x0 ⟨rfl, rfl⟩
              go_wp2_with fail
              refine (fail_at g (d :: t, false) _ KF.out).mono ?_
              rintro e x2 ⟨rfl, kf, qf⟩
              have q1 := grown_then q1 qf

              have c1 : x2.cell? ⟨g, 0, none⟩ = some (.string (B [])) := kf.cell 0
              have KA := Lib.hid kf
              clear kf
              go_wp2_with fail
              refine (fail_at g ([], true) _ KA.out).mono ?_
              rintro e y2 ⟨rfl, k2, q2⟩
              have c2 : y2.cell? ⟨g, 0, none⟩ = some (.string (B [])) := k2.cell 0
              have K2 := Lib.hid k2
              clear k2
              have q3 := grown_then q1 q2
              have hlk := HX.out.len
              simp only [List.length_cons] at hlk
              go_wp2_with fail
              go_roundg (gk - 1)
              case measure => omega
              case rel => exact ⟨([], true), acc, K2.out, isBuilder_grown HX.out.bld q3 (fun k e => by cases e; exact hgA), Nat.le_trans HX.out.size q3.size, grown_then HX.out.grown q3, by rw [HRES.out]; exact qrest_nil true acc, fun _ => rfl, by simp, by have := HX.out.all; simp at this ⊢; omega⟩
        · have hn2 := next_at g (c :: t) false 92 92 rfl false (by simp [nextB, h92]) wr hlen HX.out.rd
          have HN2 := Lib.hid hn2
          have k0 := HX.out.rd
          have q0 := grown_refl wr (some g)
          clear hn2 c0
          have hacc := HX.out.res
          by_cases he : c = 13 ∨ c = 10
          · rw [qrest_ends c t acc he] at hacc
            have HRES := Lib.hid hacc.symm
            have hends : decide (Lib.indexByte [13, 10] c < 0) = false := index_lt (by rcases he with rfl | rfl <;> rfl)
            have c0 : wr.cell? ⟨g, 0, none⟩ = some (.string (B (c :: t))) := k0.cell 0
            have KF := Lib.hid k0
            clear hacc he h92 k0
            go_wp2_with fail
            refine HN.out.mono ?_
            rintro e x0 ⟨rfl, rfl⟩
            go_wp2_with fail
            refine HN2.out.mono ?_
            rintro e x0 ⟨rfl, rfl⟩
            go_wp2_with (go_at_call 55; refine (Tryd.strings_IndexByte _ _ _).mono ?_; rintro e y ⟨rfl, rfl⟩)
            refine (fail_at g (c :: t, false) _ KF.out).mono ?_
            rintro e y2 ⟨rfl, k2, q2⟩
            have c2 : y2.cell? ⟨g, 0, none⟩ = some (.string (B [])) := k2.cell 0
            have K2 := Lib.hid k2
            clear k2
            have q3 := grown_then q0 q2
            have hlk := HX.out.len
            simp only [List.length_cons] at hlk
            go_wp2_with fail
            go_roundg (gk - 1)
            case measure => omega
            case rel => exact ⟨([], true), acc, K2.out, isBuilder_grown HX.out.bld q3 (fun k e => by cases e; exact hgA), Nat.le_trans HX.out.size q3.size, grown_then HX.out.grown q3, by rw [HRES.out]; exact qrest_nil true acc, fun _ => rfl, by simp, by have := HX.out.all; simp at this ⊢; omega⟩
          · rw [qrest_one c t acc H34.out he h92] at hacc
            have HRES := Lib.hid hacc
            have hends : decide (Lib.indexByte [13, 10] c < 0) = true := index_lt (by simp only [Bool.not_eq_true', Bool.or_eq_false_iff, beq_eq_false_iff_ne]; exact ⟨fun e => he (.inl e), fun e => he (.inr e)⟩)
            have c0 : wr.cell? ⟨g, 0, none⟩ = some (.string (B (c :: t))) := k0.cell 0
            have k0' : Rd wr g (c :: t) false := k0
            clear hacc he h92 k0
            go_wp2_with fail
            refine HN.out.mono ?_
            rintro e x0 ⟨rfl, rfl⟩
            go_wp2_with fail
            refine HN2.out.mono ?_
            rintro e x0 ⟨rfl, rfl⟩

            have c1 : wr.cell? ⟨g, 0, none⟩ = some (.string (B (c :: t))) := k0'.cell 0
            have KA := Lib.hid k0'
            clear k0'
            go_wp2_with (go_at_call 55; refine (Tryd.strings_IndexByte _ _ _).mono ?_; rintro e y ⟨rfl, rfl⟩)
            refine (keep_at g (c :: t, false) _ KA.out).mono ?_
            rintro e y2 ⟨rfl, k2, q2⟩
            have c2 : y2.cell? ⟨g, 0, none⟩ = some (.string (B (c :: t))) := k2.cell 0
            have K2 := Lib.hid k2
            clear k2
            go_wp2_with fail
            refine (take_any g (c :: t) false 1 _ (by unfold maxLen; omega) (by simp) K2.out).mono ?_
            rintro e y3 ⟨rfl, k3, q3⟩
            have k3 : Rd y3 g t false := k3
            have K3 := Lib.hid k3
            clear k3
            have q3 := grown_then (grown_then q0 q2) q3
            have hbd := isBuilder_grown HX.out.bld q3 (fun k e => by cases e; exact hgA)
            have HBD := Lib.hid hbd
            have hall := HX.out.all
            have hlk := HX.out.len
            simp only [List.length_cons] at hall hlk
            clear hbd
            go_wp2_with fail
            refine (writeString_any A A (Lib.byteCells acc) (B (List.take 1 (c :: t))) _ HBD.out (by rw [B_size, Lib.byteCells_length]; simp; omega) (Nat.le_trans HX.out.size q3.size)).mono ?_
            rintro e y4 ⟨rfl, hb4, hB4⟩
            go_wp2_with fail
            go_roundg (gk - 1)
            case measure => omega
            case rel => exact ⟨(t, false), acc ++ [c], Blk.below K3.out hB4 hgA, .inr (by rw [write_one] at hb4; exact hb4), Nat.le_trans (Nat.le_trans HX.out.size q3.size) hB4.size, grown_belowA (grown_then HX.out.grown q3) hB4 hwA, HRES.out, fun h => by simp at h, by simp only; omega, by simp; omega⟩

theorem pQuoted_len (r : List UInt8) : (pQuoted (34 :: r, false)).2.1.length ≤ r.length := by
  rw [pQuoted_eq]
  have h : ∀ (n : Nat) (r : List UInt8), r.length ≤ n → ∀ x, qscan r = some x → x.2.length ≤ r.length := by
    intro n
    induction n with
    | zero => intro r hr x hx; cases r with
      | nil => simp [qscan] at hx
      | cons c t => simp at hr
    | succ n ih =>
      intro r hr x hx
      rcases r with _ | ⟨c, t⟩
      · simp [qscan] at hx
      · rw [qscan_cons] at hx
        simp only [List.length_cons] at hr
        by_cases h1 : c = 34
        · rw [if_pos h1] at hx; cases hx; simp
        · rw [if_neg h1] at hx
          by_cases h2 : c = 13 ∨ c = 10
          · rw [if_pos h2] at hx; cases hx
          · rw [if_neg h2] at hx
            by_cases h3 : c = 92
            · rw [if_pos h3] at hx
              rcases t with _ | ⟨d, t⟩
              · cases hx
              · dsimp only at hx
                by_cases h4 : d = 34 ∨ d = 92
                · rw [if_pos h4] at hx
                  cases hq : qscan t with
                  | none => rw [hq] at hx; simp at hx
                  | some y =>
                    rw [hq] at hx; simp at hx; subst hx
                    simp only [List.length_cons] at hr
                    have := ih t (by omega) y hq
                    simp; omega
                · rw [if_neg h4] at hx; cases hx
            · rw [if_neg h3] at hx
              cases hq : qscan t with
              | none => rw [hq] at hx; simp at hx
              | some y =>
                rw [hq] at hx; simp at hx; subst hx
                have := ih t (by omega) y hq
                simp; omega
  cases hq : qscan r with
  | none => simp [qend]
  | some x => exact h r.length r (Nat.le_refl _) x hq

theorem nextB_some {c : UInt8} {s : Sta} (h : nextB c s = true) : ∃ t, s.1 = c :: t := by
  unfold nextB at h
  rcases hs : s.1 with _ | ⟨d, t⟩
  · rw [hs] at h; simp at h
  · rw [hs] at h; simp at h; subst h; exact ⟨t, rfl⟩

theorem pString_len (s : Sta) (hok : s.ok) : (pString s).2.1.length ≤ s.1.length := by
  unfold pString
  split
  · next h =>
    obtain ⟨l, f⟩ := s
    obtain ⟨t, ht⟩ := nextB_some h
    simp only at ht
    subst ht
    have hf : f = false := by cases f with
      | false => rfl
      | true => have := hok rfl; simp at this
    subst hf
    exact Nat.le_trans (pQuoted_len t) (by simp)
  · split
    · exact pLit_len s
    · exact pAtom_len s

theorem pString_ok (s : Sta) (hok : s.ok) : (pString s).2.ok := by
  unfold pString
  split
  · next h =>
    obtain ⟨l, f⟩ := s
    obtain ⟨t, ht⟩ := nextB_some h
    simp only at ht
    subst ht
    have hf : f = false := by cases f with
      | false => rfl
      | true => have := hok rfl; simp at this
    subst hf
    rw [pQuoted_eq]
    cases qscan t with
    | none => exact Sta.ok_fail
    | some x => exact fun h => by simp [qend] at h
  · split
    · exact pLit_ok hok
    · exact pAtom_ok hok

theorem string_any {n₀ : Nat} (g : Nat) (s : Sta) (w : World) (hl : s.1.length ≤ 1048576) (hok : s.ok) (hn : n₀ ≤ g) (hE : Env n₀ w) (hr : Rd w g s.1 s.2) :
    Calls Tryd.prog 15 #[.pointer (some ⟨g, 0, none⟩)] w fun e w' => e = .returned (.string (B (pString s).1)) ∧ Rd w' g (pString s).2.1 (pString s).2.2 ∧ w.grownBy w' (some g) := by
  obtain ⟨l, f⟩ := s
  cases h1 : nextB 34 (l, f) with
  | true =>
    obtain ⟨t, ht⟩ := nextB_some h1
    simp only at ht
    subst ht
    have hf : f = false := by cases f with
      | false => rfl
      | true => have := hok rfl; simp at this
    subst hf
    have hp : pString (34 :: t, false) = pQuoted (34 :: t, false) := by unfold pString; rw [if_pos h1]
    have hq := quoted_any g t w (by simp at hl; omega) hr
    rw [hp]
    have hx := next_at g (34 :: t) false 34 34 rfl true h1 w hl hr
    have HQ := Lib.hid hq; have HX := Lib.hid hx
    clear hq hx hp h1 hr hok
    go_enter Tryd.func15, Tryd.ntmps15
    go_wp2_with fail
    refine HX.out.mono ?_
    rintro e x0 ⟨rfl, rfl⟩
    go_wp2_with fail
    refine HQ.out.mono ?_
    rintro e x1 ⟨rfl, k1, q1⟩
    go_wp2_with fail
    go_ret
    exact ⟨rfl, k1, q1⟩
  | false =>
    have hx := next_at g l f 34 34 rfl false h1 w hl hr
    have HX := Lib.hid hx
    cases h2 : nextB 123 (l, f) with
    | true =>
      have hp : pString (l, f) = pLit (l, f) := by unfold pString; rw [if_neg (by rw [h1]; simp), if_pos h2]
      have hy := next_at g l f 123 123 rfl true h2 w hl hr
      have hq := literal_any g l f w hl hn hE hr
      rw [hp]
      have HY := Lib.hid hy; have HQ := Lib.hid hq
      clear hx hy hq hp h1 h2 hr hok
      go_enter Tryd.func15, Tryd.ntmps15
      go_wp2_with fail
      refine HX.out.mono ?_
      rintro e x0 ⟨rfl, rfl⟩
      go_wp2_with fail
      refine HY.out.mono ?_
      rintro e x0 ⟨rfl, rfl⟩
      go_wp2_with fail
      refine HQ.out.mono ?_
      rintro e x1 ⟨rfl, k1, q1⟩
      go_wp2_with fail
      go_ret
      exact ⟨rfl, k1, q1⟩
    | false =>
      have hp : pString (l, f) = pAtom (l, f) := by unfold pString; rw [if_neg (by rw [h1]; simp), if_neg (by rw [h2]; simp)]
      have hy := next_at g l f 123 123 rfl false h2 w hl hr
      have hq := atom_any g l f w (by unfold maxLen; simp only at hl; omega) hr
      rw [hp]
      have HY := Lib.hid hy; have HQ := Lib.hid hq
      clear hx hy hq hp h1 h2 hr hok
      go_enter Tryd.func15, Tryd.ntmps15
      go_wp2_with fail
      refine HX.out.mono ?_
      rintro e x0 ⟨rfl, rfl⟩
      go_wp2_with fail
      refine HY.out.mono ?_
      rintro e x0 ⟨rfl, rfl⟩
      go_wp2_with fail
      refine HQ.out.mono ?_
      rintro e x1 ⟨rfl, k1, q1⟩
      go_wp2_with fail
      go_ret
      exact ⟨rfl, k1, q1⟩

end Go.Proofs.YtmgifbibhodbbaaDoor

/- The contract of awake (chapter 12), and the walk of TokenGivesUp. -/
import Derived.Test.YtmgifbibhodbbaaDoorT7
namespace Go.Proofs.YtmgifbibhodbbaaDoor
open Go.RowKit

theorem aw_string : pString ([34, 97, 92, 34, 98, 34], false) = ([97, 34, 98], ([], false)) := by decide +kernel
theorem aw_literal : pLit ([123, 50, 125, 13, 10, 120, 121, 122], false) = ([120, 121], ([122], false)) := by decide +kernel

set_option maxHeartbeats 800000 in
set_option maxRecDepth 100000 in
theorem awake_any {n₀ : Nat} (w : World) (hE : Env n₀ w) :
    Calls Tryd.prog 19 #[] w fun e w' => e = .returned (.bool true) ∧ Below w.heap.size w w' := by
  have r1 : ∀ W, Calls Tryd.prog 8 #[.string ⟨#[34, 97, 92, 34, 98, 34]⟩] W fun e w' => e = .returned (.pointer (some ⟨W.heap.size, 0, none⟩)) ∧ w' = W.alloc (.cells #[.string (B [34, 97, 92, 34, 98, 34]), .bool false] 54) := fun W => read_any [34, 97, 92, 34, 98, 34] W
  have r2 : ∀ W, Calls Tryd.prog 8 #[.string ⟨#[123, 50, 125, 13, 10, 120, 121, 122]⟩] W fun e w' => e = .returned (.pointer (some ⟨W.heap.size, 0, none⟩)) ∧ w' = W.alloc (.cells #[.string (B [123, 50, 125, 13, 10, 120, 121, 122]), .bool false] 54) := fun W => read_any [123, 50, 125, 13, 10, 120, 121, 122] W
  have R1 := Lib.hid r1; have R2 := Lib.hid r2; have HE := Lib.hid hE
  clear r1 r2
  go_enter Tryd.func19, Tryd.ntmps19
  go_wp2_with fail
  refine (R1.out _).mono ?_
  rintro e w1 ⟨rfl, hw1⟩
  have a1 : Rd w1 w.heap.size [34, 97, 92, 34, 98, 34] false := by rw [hw1]; exact Blk.new w 54 _
  have b1 : Below w.heap.size w w1 := by rw [hw1]; exact below_alloc (Below.refl _ _) _
  have s1 : w.heap.size < w1.heap.size := a1.lt
  have A1 := Lib.hid a1; have B1 := Lib.hid b1
  clear a1 b1 hw1
  go_wp2_with fail
  refine (R2.out _).mono ?_
  rintro e w2 ⟨rfl, hw2⟩
  have a2 : Rd w2 w1.heap.size [123, 50, 125, 13, 10, 120, 121, 122] false := by rw [hw2]; exact Blk.new w1 54 _
  have b2 : Below w1.heap.size w1 w2 := by rw [hw2]; exact below_alloc (Below.refl _ _) _
  have a1 := A1.out.stay b2
  have b2 := below_on B1.out b2
  have A2 := Lib.hid a2; have B2 := Lib.hid b2; have A1' := Lib.hid a1
  clear a1 b2 a2 hw2
  go_wp2_with fail
  refine (string_any w.heap.size ([34, 97, 92, 34, 98, 34], false) _ (by simp) (fun h => by simp at h) hE.le (HE.out.below B2.out) A1'.out).mono ?_
  rw [aw_string]
  rintro e w3 ⟨rfl, k3, q3⟩
  have a3 : Rd w3 w1.heap.size [123, 50, 125, 13, 10, 120, 121, 122] false := Blk.grown A2.out q3 (by simp; omega)
  have E3 := Lib.hid ((HE.out.below B2.out).grown1 q3 hE.le)
  have A3 := Lib.hid a3; have K3 := Lib.hid k3
  clear a3 k3
  go_wp2_with fail
  refine (literal_any w1.heap.size [123, 50, 125, 13, 10, 120, 121, 122] false _ (by simp) (by have := hE.le; omega) E3.out A3.out).mono ?_
  rw [aw_literal]
  rintro e w4 ⟨rfl, k4, q4⟩
  have a4 : Rd w4 w.heap.size [] false := Blk.grown K3.out q4 (by simp; omega)
  have A4 := Lib.hid a4; have K4 := Lib.hid k4
  clear a4 k4
  go_wp2_with fail
  refine (end_any w.heap.size [] false _ A4.out).mono ?_
  rintro e w5 ⟨rfl, rfl⟩
  go_wp2_with fail
  refine (left_any w1.heap.size [122] false _ (by unfold maxLen; simp) K4.out).mono ?_
  rintro e w5 ⟨rfl, rfl⟩
  go_wp2_with fail
  go_ret
  refine ⟨rfl, ?_⟩
  exact ((Below.refl w.heap.size w).trans B2.out).trans ((below_of_grown q3 B2.out.size (fun g e => by cases e; exact Nat.le_refl _)).trans (below_of_grown q4 (Nat.le_trans B2.out.size q3.size) (fun g e => by cases e; omega)))

theorem up_string : pString ([], true) = ([], ([], true)) := by decide +kernel
theorem up_literal : pLit ([], true) = ([], ([], true)) := by decide +kernel
theorem up_atom : pAtom ([], true) = ([], ([], true)) := by decide +kernel
theorem up_number : pNumber ([], true) = (0, ([], true)) := by decide +kernel
theorem up_word : wordB [] ([], true) = false := by decide +kernel
theorem up_word2 : pWord [] ([], true) = ([], true) := by decide +kernel

set_option maxHeartbeats 1600000 in
set_option maxRecDepth 100000 in
theorem givesUp_any {n₀ : Nat} (l : List UInt8) (w : World) (hE : Env n₀ w) :
    Calls Tryd.prog 3 #[.string (B l)] w fun e w' => e = .returned (.bool true) ∧ Below w.heap.size w w' := by
  by_cases hlen : 300 < l.length
  · have h1 : 300 < (l.length : Int) := by omega
    have HE := Lib.hid hE; clear hE hlen
    go_enter Tryd.func3, Tryd.ntmps3
    go_wp2_with fail
    go_ret
    exact ⟨rfl, Below.refl _ _⟩
  · have h1 : (l.length : Int) ≤ 300 := by omega
    have HE := Lib.hid hE
    clear hlen
    go_enter Tryd.func3, Tryd.ntmps3
    go_wp2_with fail
    refine (read_any l _).mono ?_
    rintro e w1 ⟨rfl, hw1⟩
    have a1 : Rd w1 w.heap.size l false := by rw [hw1]; exact Blk.new w 54 _
    have b1 : Below w.heap.size w w1 := by rw [hw1]; exact below_alloc (Below.refl _ _) _
    have e1 := hE.below b1
    have A1 := Lib.hid a1; have B1 := Lib.hid b1; have E1 := Lib.hid e1
    have hle := hE.le
    clear a1 b1 hw1 hE e1
    go_wp2_with fail
    refine (fail_any w.heap.size l false _ A1.out).mono ?_
    rintro e w2 ⟨rfl, a2, q2⟩
    have A2 := Lib.hid a2; have Q2 := Lib.hid q2; have E2 := Lib.hid (E1.out.grown1 q2 hle)
    clear a2 q2
    go_wp2_with fail
    refine (ok_any w.heap.size [] true _ A2.out).mono ?_
    rintro e w3 ⟨rfl, rfl⟩
    go_wp2_with fail
    refine (end_any w.heap.size [] true _ A2.out).mono ?_
    rintro e w3 ⟨rfl, rfl⟩
    go_wp2_with fail
    refine (left_any w.heap.size [] true _ (by unfold maxLen; simp) A2.out).mono ?_
    rintro e w3 ⟨rfl, rfl⟩
    go_wp2_with fail
    refine (atom_any w.heap.size [] true _ (by unfold maxLen; simp) A2.out).mono ?_
    rw [up_atom]
    rintro e w3 ⟨rfl, a3, q3⟩
    have A3 := Lib.hid a3; have Q3 := Lib.hid (grown_then Q2.out q3); have E3 := Lib.hid (E2.out.grown1 q3 hle)
    clear a3 q3
    go_wp2_with fail
    refine (number_any w.heap.size [] true _ (by simp) hle E3.out A3.out).mono ?_
    rw [up_number]
    rintro e w4 ⟨rfl, a4, q4⟩
    have A4 := Lib.hid a4; have Q4 := Lib.hid (grown_then Q3.out q4); have E4 := Lib.hid (E3.out.grown1 q4 hle)
    clear a4 q4
    go_wp2_with fail
    refine (string_any w.heap.size ([], true) _ (by simp) (fun _ => rfl) hle E4.out A4.out).mono ?_
    rw [up_string]
    rintro e w5 ⟨rfl, a5, q5⟩
    have A5 := Lib.hid a5; have Q5 := Lib.hid (grown_then Q4.out q5); have E5 := Lib.hid (E4.out.grown1 q5 hle)
    clear a5 q5
    go_wp2_with fail
    refine (literal_any w.heap.size [] true _ (by simp) hle E5.out A5.out).mono ?_
    rw [up_literal]
    rintro e w6 ⟨rfl, a6, q6⟩
    have A6 := Lib.hid a6; have Q6 := Lib.hid (grown_then Q5.out q6); have E6 := Lib.hid (E5.out.grown1 q6 hle)
    clear a6 q6
    go_wp2_with fail
    refine (word_any w.heap.size [] [] true _ (by simp) (by simp) A6.out).mono ?_
    rw [up_word, up_word2]
    rintro e w7 ⟨rfl, a7, q7⟩
    have A7 := Lib.hid a7; have Q7 := Lib.hid (grown_then Q6.out q7); have E7 := Lib.hid (E6.out.grown1 q7 hle)
    clear a7 q7
    go_wp2_with fail
    refine (next_at w.heap.size [] true 97 97 rfl false rfl _ (by simp) A7.out).mono ?_
    rintro e w8 ⟨rfl, rfl⟩
    go_wp2_with fail
    refine (ok_any w.heap.size [] true _ A7.out).mono ?_
    rintro e w8 ⟨rfl, rfl⟩
    go_wp2_with fail
    refine (awake_any _ E7.out).mono ?_
    rintro e w8 ⟨rfl, b8⟩
    go_wp2_with fail
    go_ret
    have hb := below_of_grown Q7.out B1.out.size (fun g e => by cases e; exact Nat.le_refl _)
    exact ⟨rfl, below_on (B1.out.trans hb) b8⟩

end Go.Proofs.YtmgifbibhodbbaaDoor

/- An argument that is a slice of messages, opened to its list. -/
import Derived.Test.YtnekbbmhjbjicaaA6
import Derived.ProofKit
import Derived.Deep.Slices
import Derived.Deep.Fields
namespace Go.Proofs.Ytnekbbmhjbjicaa
open Go.ChangeShapes Go.WideShapes Go.ChangeAt Go.RowKit Go.Deep

section
variable {H : Type} {enc : TypeId × Value → H} {w : World} {base : Nat} {spare : Nat → Bool} {held : Bool}

set_option maxRecDepth 100000 in
/-- what three cells of a message read as -/
theorem rec_of_trod {fuel : Nat} {cs : List Value} {x : DataW H × List MemPlace} (h : DataW.trod enc Try.prog w base spare held fuel 37 cs = some x) : ∃ r : Rc, cs = r.cells ∧ r.ok := by
  obtain ⟨ys, n, _, _, hlen, hyl, hf⟩ := DataW.trod_struct Try.underlying37 h
  have hc3 : Try.prog.cellsOf 37 = 3 := by kernel_rfl
  have hc23 : Try.prog.cellsOf 23 = 1 := by kernel_rfl
  have hc5 : Try.prog.cellsOf 5 = 1 := by kernel_rfl
  have hc9 : Try.prog.cellsOf 9 = 1 := by kernel_rfl
  rw [hc3] at hlen
  match cs, hlen with
  | [v0, v1, v2], _ =>
    have hy : ys.length = 3 := hyl
    match ys, hy with
    | [y0, y1, y2], _ =>
      have h0 : DataW.trod enc Try.prog w base spare held n 23 (([v0, v1, v2].drop 0).take (Try.prog.cellsOf 23)) = [y0, y1, y2][0]? := hf 0 _ rfl
      have h1 : DataW.trod enc Try.prog w base spare held n 5 (([v0, v1, v2].drop 1).take (Try.prog.cellsOf 5)) = [y0, y1, y2][1]? := hf 1 _ rfl
      have h2 : DataW.trod enc Try.prog w base spare held n 9 (([v0, v1, v2].drop 2).take (Try.prog.cellsOf 9)) = [y0, y1, y2][2]? := hf 2 _ rfl
      rw [hc23] at h0
      rw [hc5] at h1
      rw [hc9] at h2
      have h0' : DataW.trod enc Try.prog w base spare held n 23 [v0] = some y0 := h0
      have h1' : DataW.trod enc Try.prog w base spare held n 5 [v1] = some y1 := h1
      have h2' : DataW.trod enc Try.prog w base spare held n 9 [v2] = some y2 := h2
      obtain ⟨a, e0, _, w0⟩ := DataW.trod_int Try.underlying23 h0'
      obtain ⟨b, e1, _, w1⟩ := DataW.trod_int Try.underlying5 h1'
      obtain ⟨s, e2, _, w2⟩ := DataW.trod_string Try.underlying9 h2'
      have b0 : 0 ≤ a ∧ a ≤ 4294967295 := by simpa [Lit.wf, IntKind.min, IntKind.max, IntKind.signed, IntKind.bits] using w0
      have b1 : 0 ≤ b ∧ b ≤ 255 := by simpa [Lit.wf, IntKind.min, IntKind.max, IntKind.signed, IntKind.bits] using w1
      simp only [List.cons.injEq, and_true] at e0 e1 e2
      subst e0; subst e1; subst e2
      obtain ⟨p, rfl⟩ := Int.eq_ofNat_of_zero_le b0.1
      obtain ⟨q, rfl⟩ := Int.eq_ofNat_of_zero_le b1.1
      exact ⟨⟨p, q, s⟩, rfl, by show p < 4294967296; omega, by show q < 256; omega, w2⟩

theorem lists {P : Nat → Rc → Prop} : ∀ n : Nat, (∀ i, i < n → ∃ r, P i r) → ∃ L : List Rc, L.length = n ∧ ∀ i r, L[i]? = some r → P i r
  | 0, _ => ⟨[], rfl, fun i r h => by simp at h⟩
  | n + 1, h => by
    obtain ⟨L, hl, hp⟩ := lists n (fun i hi => h i (by omega))
    obtain ⟨r, hr⟩ := h n (by omega)
    refine ⟨L ++ [r], by simp [hl], fun i x hx => ?_⟩
    rcases Nat.lt_or_ge i n with h1 | h1
    · rw [List.getElem?_append_left (by omega)] at hx
      exact hp i x hx
    · rw [List.getElem?_append_right (by omega), hl] at hx
      have : i - n = 0 := by
        have := (List.getElem?_eq_some_iff.1 hx).1
        simp at this; omega
      rw [this] at hx
      simp at hx
      subst hx
      have : i = n := by omega
      subst this; exact hr

/-- a slice of messages that came in -/
theorem open_recs {fuel : Nat} {a0 : Option Addr} {len cap : Nat} {x : DataW H × List MemPlace} (h : DataW.trod enc Try.prog w base spare held fuel 22 [.slice a0 len cap] = some x) :
    ∃ L : List Rc, L.length = len ∧ (∀ r ∈ L, r.ok) ∧ len ≤ maxLen ∧ RecsAt w w.heap.size a0 L := by
  rcases open_slice Try.underlying22 h with ⟨hcs, _⟩ | ⟨a, len', cap', m, n, D, Pl, hcs, _, hl, hm, hmm, _, hi⟩
  · simp at hcs
    obtain ⟨rfl, rfl, rfl⟩ := hcs
    exact ⟨[], rfl, by simp, by simp, fun h => absurd rfl h⟩
  · simp at hcs
    obtain ⟨rfl, rfl, rfl⟩ := hcs
    have hc3 : Try.prog.cellsOf 37 = 3 := by kernel_rfl
    rw [hc3] at hi
    have hlm : len ≤ m := by rw [hmm]; split <;> omega
    obtain ⟨L, hL, hP⟩ := lists (P := fun i r => r.ok ∧ ∀ j v, r.cells[j]? = some v → w.cell? (a.add (i * 3 + j)) = some v) len (fun i hi2 => by
      obtain ⟨cs', hc, ht⟩ := hi i (by omega)
      obtain ⟨_, hcl, hat⟩ := World.cells?_some hc
      obtain ⟨r, rfl, hok⟩ := rec_of_trod ht
      refine ⟨r, hok, fun j v hj => ?_⟩
      have hj3 : j < 3 := by have := (List.getElem?_eq_some_iff.1 hj).1; simpa [Rc.cells] using this
      have := hat j hj3
      rw [Go.Deep.add_add] at this
      rw [this, hj])
    refine ⟨L, hL, fun r hr => ?_, by omega, fun hne => ?_⟩
    · obtain ⟨i, hi, rfl⟩ := List.mem_iff_getElem.1 hr
      exact (hP i _ (List.getElem?_eq_getElem hi)).1
    · have h0 : 0 < L.length := List.length_pos_iff.2 hne
      have hc0 := (hP 0 L[0] (List.getElem?_eq_getElem h0)).2 0 _ rfl
      obtain ⟨b, o, sp⟩ := a
      have hsp : sp = none := by simpa [Addr.add] using World.cell?_spot hc0
      subst hsp
      have hb := World.block_lt_of_cell? w _ hc0
      have hb' : b < w.heap.size := by simpa [Addr.add] using hb
      refine ⟨b, o, rfl, hb', fun k r hk => ?_⟩
      have hcell := (hP k r hk).2
      have hadd : ∀ n, (⟨b, o, none⟩ : Addr).add n = ⟨b, o + n, none⟩ := fun n => Addr.add_mid b o n
      have h1 := hcell 0 _ rfl
      have h2 := hcell 1 _ rfl
      have h3 := hcell 2 _ rfl
      rw [hadd] at h1 h2 h3
      exact ⟨h1, h2, h3⟩
end

theorem bounds_u32 {x : Int} (h : (Lit.int .u32 x).wf = true) : ∃ n : Nat, x = n ∧ n < 4294967296 := by
  have b0 : 0 ≤ x ∧ x ≤ 4294967295 := by simpa [Lit.wf, IntKind.min, IntKind.max, IntKind.signed, IntKind.bits] using h
  obtain ⟨p, rfl⟩ := Int.eq_ofNat_of_zero_le b0.1
  exact ⟨p, rfl, by omega⟩
theorem bounds_u8 {x : Int} (h : (Lit.int .u8 x).wf = true) : ∃ n : Nat, x = n ∧ n < 256 := by
  have b0 : 0 ≤ x ∧ x ≤ 255 := by simpa [Lit.wf, IntKind.min, IntKind.max, IntKind.signed, IntKind.bits] using h
  obtain ⟨p, rfl⟩ := Int.eq_ofNat_of_zero_le b0.1
  exact ⟨p, rfl, by omega⟩

end Go.Proofs.Ytnekbbmhjbjicaa

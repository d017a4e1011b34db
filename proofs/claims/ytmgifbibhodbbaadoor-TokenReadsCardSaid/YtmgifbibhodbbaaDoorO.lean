/- An argument that is a slice of asks, opened to its list. -/
import Derived.Test.YtmgifbibhodbbaaDoorK6
import Derived.ProofKit
import Derived.Deep.Slices
import Derived.Deep.Fields
namespace Go.Proofs.YtmgifbibhodbbaaDoor
open Go.ChangeShapes Go.WideShapes Go.ChangeAt Go.RowKit Go.Deep

section
variable {H : Type} {enc : TypeId × Value → H} {w : World} {base : Nat} {spare : Nat → Bool} {held : Bool}

set_option maxRecDepth 100000 in
/-- what two cells of an ask read as -/
theorem ask_of_trod {fuel : Nat} {cs : List Value} {x : DataW H × List MemPlace} (h : DataW.trod enc Tryd.prog w base spare held fuel 36 cs = some x) : ∃ r : Ask, cs = [.int .u8 r.what, .string (B r.word)] ∧ r.ok := by
  obtain ⟨ys, n, _, _, hlen, hyl, hf⟩ := DataW.trod_struct Tryd.underlying36 h
  have hc2 : Tryd.prog.cellsOf 36 = 2 := by kernel_rfl
  have hc5 : Tryd.prog.cellsOf 5 = 1 := by kernel_rfl
  have hc9 : Tryd.prog.cellsOf 9 = 1 := by kernel_rfl
  rw [hc2] at hlen
  match cs, hlen with
  | [v0, v1], _ =>
    have hy : ys.length = 2 := hyl
    match ys, hy with
    | [y0, y1], _ =>
      have h0 : DataW.trod enc Tryd.prog w base spare held n 5 (([v0, v1].drop 0).take (Tryd.prog.cellsOf 5)) = [y0, y1][0]? := hf 0 _ rfl
      have h1 : DataW.trod enc Tryd.prog w base spare held n 9 (([v0, v1].drop 1).take (Tryd.prog.cellsOf 9)) = [y0, y1][1]? := hf 1 _ rfl
      rw [hc5] at h0
      rw [hc9] at h1
      have h0' : DataW.trod enc Tryd.prog w base spare held n 5 [v0] = some y0 := h0
      have h1' : DataW.trod enc Tryd.prog w base spare held n 9 [v1] = some y1 := h1
      obtain ⟨b, e0, _, w0⟩ := DataW.trod_int Tryd.underlying5 h0'
      obtain ⟨s, e1, _, w1⟩ := DataW.trod_string Tryd.underlying9 h1'
      have b0 : 0 ≤ b ∧ b ≤ 255 := by simpa [Lit.wf, IntKind.min, IntKind.max, IntKind.signed, IntKind.bits] using w0
      simp only [List.cons.injEq, and_true] at e0 e1
      subst e0; subst e1
      obtain ⟨p, rfl⟩ := Int.eq_ofNat_of_zero_le b0.1
      refine ⟨⟨p, s.data.toList⟩, by rw [B_list], ?_, ?_⟩
      · show p < 256; omega
      · show s.data.toList.length ≤ maxLen
        have : s.data.toList.length = s.size := Array.length_toList
        rw [this]; exact w1

theorem lists {P : Nat → Ask → Prop} : ∀ n : Nat, (∀ i, i < n → ∃ r, P i r) → ∃ L : List Ask, L.length = n ∧ ∀ i r, L[i]? = some r → P i r
  | 0, _ => ⟨[], rfl, fun i r h => by simp at h⟩
  | n + 1, h => by
    obtain ⟨L, hl, hp⟩ := lists n (fun i hi => h i (by omega))
    obtain ⟨r, hr⟩ := h n (by omega)
    refine ⟨L ++ [r], by simp [hl], fun i x hx => ?_⟩
    rcases Nat.lt_or_ge i n with h1 | h1
    · rw [List.getElem?_append_left (by omega)] at hx
      exact hp i x hx
    · rw [List.getElem?_append_right (by omega), hl] at hx
      have : i - n = 0 := by
        have := (List.getElem?_eq_some_iff.1 hx).1
        simp at this; omega
      rw [this] at hx
      simp at hx
      subst hx
      have : i = n := by omega
      subst this; exact hr

/-- a slice of asks that came in -/
theorem open_asks {fuel : Nat} {a0 : Option Addr} {len cap : Nat} {x : DataW H × List MemPlace} (h : DataW.trod enc Tryd.prog w base spare held fuel 31 [.slice a0 len cap] = some x) :
    ∃ L : List Ask, L.length = len ∧ (∀ r ∈ L, r.ok) ∧ AsksAt w w.heap.size a0 L := by
  rcases open_slice Tryd.underlying31 h with ⟨hcs, _⟩ | ⟨a, len', cap', m, n, D, Pl, hcs, _, hl, hm, hmm, _, hi⟩
  · simp at hcs
    obtain ⟨rfl, rfl, rfl⟩ := hcs
    exact ⟨[], rfl, by simp, fun h => absurd rfl h⟩
  · simp at hcs
    obtain ⟨rfl, rfl, rfl⟩ := hcs
    have hc3 : Tryd.prog.cellsOf 36 = 2 := by kernel_rfl
    rw [hc3] at hi
    have hlm : len ≤ m := by rw [hmm]; split <;> omega
    obtain ⟨L, hL, hP⟩ := lists (P := fun i r => r.ok ∧ w.cell? (a.add (i * 2)) = some (.int .u8 r.what) ∧ w.cell? (a.add (i * 2 + 1)) = some (.string (B r.word))) len (fun i hi2 => by
      obtain ⟨cs', hc, ht⟩ := hi i (by omega)
      obtain ⟨_, hcl, hat⟩ := World.cells?_some hc
      obtain ⟨r, rfl, hok⟩ := ask_of_trod ht
      refine ⟨r, hok, ?_, ?_⟩
      · have := hat (i := 0) (by omega)
        rw [Go.Deep.add_add] at this
        simpa using this
      · have := hat (i := 1) (by omega)
        rw [Go.Deep.add_add] at this
        simpa using this)
    refine ⟨L, hL, fun r hr => ?_, fun hne => ?_⟩
    · obtain ⟨i, hi, rfl⟩ := List.mem_iff_getElem.1 hr
      exact (hP i _ (List.getElem?_eq_getElem hi)).1
    · have h0 : 0 < L.length := List.length_pos_iff.2 hne
      have hc0 := (hP 0 L[0] (List.getElem?_eq_getElem h0)).2.1
      obtain ⟨b, o, sp⟩ := a
      have hsp : sp = none := by simpa [Addr.add] using World.cell?_spot hc0
      subst hsp
      have hb := World.block_lt_of_cell? w _ hc0
      have hb' : b < w.heap.size := by simpa [Addr.add] using hb
      refine ⟨b, o, rfl, hb', fun k r hk => ?_⟩
      have hcell := (hP k r hk).2
      have hadd : ∀ n, (⟨b, o, none⟩ : Addr).add n = ⟨b, o + n, none⟩ := fun n => Addr.add_mid b o n
      rw [hadd, hadd] at hcell
      exact hcell
end

end Go.Proofs.YtmgifbibhodbbaaDoor

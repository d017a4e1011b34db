/- Arguments that are slices of numbers, opened to their lists. -/
import Derived.Test.YtmgifbibhodbbaaDoorF15
import Derived.ProofKit
import Derived.OpenShut
namespace Go.Proofs.YtmgifbibhodbbaaDoor
open Go.ChangeShapes Go.WideShapes Go.ChangeAt Go.RowKit

theorem lt_of_cell {w : World} {b o : Nat} {v : Value} (h : w.cell? ⟨b, o, none⟩ = some v) : b < w.heap.size := by
  rcases Nat.lt_or_ge b w.heap.size with h' | h'
  · exact h'
  · simp [World.cell?, Array.getElem?_eq_none h'] at h

section
variable {H : Type} {enc : TypeId × Value → H} {w : World} {base : Nat} {held : Bool}

/-- numbers that lie in a row below the heap's end -/
def IntsIn (w : World) (k : IntKind) (A : Option Addr) (zs : List Int) : Prop :=
  zs ≠ [] → ∃ b o, A = some ⟨b, o, none⟩ ∧ b < w.heap.size ∧ ∀ j z, zs[j]? = some z → w.cell? ⟨b, o + j, none⟩ = some (.int k z)

theorem open_nums {t e : TypeId} {k : IntKind} {fuel : Nat} {cs : List Value} {x : DataW H × List MemPlace} (ht : Tryd.prog.underlying t = some (.slice e)) (he : Tryd.prog.underlying e = some (.int k)) (hc : Tryd.prog.cellsOf e = 1)
    (h : DataW.trod enc Tryd.prog w base (fun _ => true) held fuel t cs = some x) :
    ∃ A zs cap, cs = [.slice A zs.length cap] ∧ (A = none → zs = []) ∧ zs.length ≤ cap ∧ IntsIn w k A zs ∧ (∀ n ∈ zs, (Lit.int k n).wf = true) := by
  rcases open_ints ht he hc h with ⟨rfl, _⟩ | ⟨a, len, cap, zs, rfl, _, hl, _, hz, _, hcell, hwf⟩
  · exact ⟨none, [], 0, rfl, fun _ => rfl, Nat.le_refl _, fun e => absurd rfl e, fun n hn => by simp at hn⟩
  · have hz' : zs.length = cap := by simpa using hz
    have hlen : (zs.take len).length = len := by simp; omega
    refine ⟨some a, zs.take len, cap, by rw [hlen], (fun e => by cases e), by omega, fun hne => ?_, fun n hn => hwf n (List.mem_of_mem_take hn)⟩
    have hpos : 0 < len := by
      cases hlen0 : len with
      | zero => rw [hlen0] at hne; simp at hne
      | succ m => omega
    obtain ⟨b, o, rfl, hat⟩ := ints_at hcell (by omega)
    refine ⟨b, o, rfl, lt_of_cell (hat 0 (by omega)), fun j z hj => ?_⟩
    rw [List.getElem?_take] at hj
    split at hj
    · have hjl := (List.getElem?_eq_some_iff.1 hj).1
      have := hat j hjl
      rw [this]
      simp [List.getD, hj]
    · cases hj
end

/-- bytes -/
theorem bytes_in {w : World} {A : Option Addr} {zs : List Int} (h : IntsIn w .u8 A zs) (hw : ∀ n ∈ zs, (Lit.int .u8 n).wf = true) : BytesIn w w.heap.size A (zs.map (fun n => UInt8.ofNat n.toNat)) := fun hne => by
  obtain ⟨b, o, h1, h2, h3⟩ := h (fun e => hne (by rw [e]; rfl))
  refine ⟨b, o, h1, h2, fun k c hk => ?_⟩
  rw [List.getElem?_map, Option.map_eq_some_iff] at hk
  obtain ⟨z, hz, rfl⟩ := hk
  rw [h3 k z hz]
  have hb : 0 ≤ z ∧ z ≤ 255 := by simpa [Lit.wf, IntKind.min, IntKind.max, IntKind.signed, IntKind.bits] using hw z (List.mem_of_getElem? hz)
  obtain ⟨m, rfl⟩ := Int.eq_ofNat_of_zero_le hb.1
  simp
  omega
/-- parts -/
theorem parts_at {w : World} {A : Option Addr} {zs : List Int} (h : IntsIn w .u16 A zs) (hw : ∀ n ∈ zs, (Lit.int .u16 n).wf = true) : PartsAt w w.heap.size A (zs.map (fun n => n.toNat)) ∧ ∀ p ∈ zs.map (fun n => n.toNat), p < 65536 := by
  have hb : ∀ z ∈ zs, 0 ≤ z ∧ z ≤ 65535 := fun z hz => by simpa [Lit.wf, IntKind.min, IntKind.max, IntKind.signed, IntKind.bits] using hw z hz
  refine ⟨fun hne => ?_, fun p hp => ?_⟩
  · obtain ⟨b, o, h1, h2, h3⟩ := h (fun e => hne (by rw [e]; rfl))
    refine ⟨b, o, h1, h2, fun k c hk => ?_⟩
    rw [List.getElem?_map, Option.map_eq_some_iff] at hk
    obtain ⟨z, hz, rfl⟩ := hk
    rw [h3 k z hz]
    have := hb z (List.mem_of_getElem? hz)
    rw [Int.toNat_of_nonneg this.1]
  · rw [List.mem_map] at hp
    obtain ⟨z, hz, rfl⟩ := hp
    have := hb z hz
    omega

end Go.Proofs.YtmgifbibhodbbaaDoor

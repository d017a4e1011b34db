/- The contracts of Upper, of the program and of the reference. -/
import Derived.Test.YtmgifbibhodbbaaDoorT2
import Derived.Laws.Externs
import Derived.Lib.AtoiErrMem
namespace Go.Proofs.YtmgifbibhodbbaaDoor
open Go.RowKit

/-- bytes that lie from place 0 on in a block -/
def Byt (w : World) (g : Nat) (l : List UInt8) : Prop := ∀ j, (h : j < l.length) → w.cell? ⟨g, j, none⟩ = some (.int .u8 (l[j].toNat : Int)) ∧ w.frozen? ⟨g, j, none⟩ = false

theorem Byt.made (w : World) (l : List UInt8) : Byt (Lib.bytesWorld w 5 (B l)) w.heap.size l := fun j h => by
  refine ⟨?_, ?_⟩
  · rw [Lib.bytesWorld_cell w 5 (B l) j (by rw [B_size]; exact h), B_data]
    simp [List.getD, h]
  · have := Lib.bytesWorld_at_new w 5 (B l)
    have hs : l.length ≤ (Lib.bytesCells w 5 (B l)).size := by simp [Lib.bytesCells, B]
    simp [World.frozen?, this]
    omega

theorem Byt.set_ {w : World} {g : Nat} {l : List UInt8} (h : Byt w g l) (i : Nat) (c : UInt8) (hi : i < l.length) : Byt (w.setCell ⟨g, i, none⟩ (.int .u8 (c.toNat : Int))) g (l.set i c) := fun j hj => by
  have hj' : j < l.length := by simpa using hj
  refine ⟨?_, ?_⟩
  · by_cases e : i = j
    · subst e
      rw [World.cell?_setCell_same _ _ _ (h i hi).1]; simp
    · rw [World.cell?_setCell_other _ _ _ _ (by simp), (h j hj').1]
      simp [e]
  · rw [World.frozen?_setCell]; exact (h j hj').2

def upTo (k : Nat) (l : List UInt8) : List UInt8 := up (l.take k) ++ l.drop k
theorem upTo_zero (l : List UInt8) : upTo 0 l = l := by simp [upTo, up]
theorem upTo_all (l : List UInt8) (k : Nat) (h : l.length ≤ k) : upTo k l = up l := by simp [upTo, List.take_of_length_le h, List.drop_eq_nil_of_le h]
theorem upTo_length (l : List UInt8) (k : Nat) : (upTo k l).length = l.length := by simp [upTo, up]; omega
theorem upTo_get (l : List UInt8) (k : Nat) (h : k < l.length) (h' : k < (upTo k l).length) : (upTo k l)[k] = l[k] := by
  have e : (upTo k l)[k]? = l[k]? := by
    unfold upTo up
    rw [List.getElem?_append_right (by simp; omega)]
    simp [Nat.min_eq_left (Nat.le_of_lt h)]
  rw [List.getElem?_eq_getElem h', List.getElem?_eq_getElem h] at e
  exact Option.some.inj e
theorem upTo_succ (l : List UInt8) (k : Nat) (h : k < l.length) : upTo (k + 1) l = (upTo k l).set k (upB l[k]) := by
  unfold upTo up
  rw [List.take_succ_eq_append_getElem h, List.map_append, List.set_append_right _ _ (by simp; omega)]
  have e : k - (List.map upB (List.take k l)).length = 0 := by simp; omega
  rw [e]
  have e2 : List.drop k l = l[k] :: List.drop (k + 1) l := List.drop_eq_getElem_cons h
  rw [e2, List.set_cons_zero, List.append_assoc]
  rfl
theorem upTo_same (l : List UInt8) (k : Nat) (h : k < l.length) (hs : upB l[k] = l[k]) : upTo (k + 1) l = upTo k l := by
  rw [upTo_succ l k h, hs]
  apply List.ext_getElem (by simp)
  intro i h1 h2
  rw [List.getElem_set]
  split
  · next e => subst e; rw [upTo_get l k h]
  · rfl

set_option maxHeartbeats 800000 in
set_option maxRecDepth 100000 in
theorem upper_any (l : List UInt8) (w : World) (hl : l.length ≤ 1048576) :
    Calls Tryd.prog 30 #[.string (B l)] w fun e w' => e = .returned (.string (B (up l))) ∧ Below w.heap.size w w' := by
  have hcv : (convert 9 39 (.string (B l))).run Tryd.prog w = .ok (.slice (some ⟨w.heap.size, 0, none⟩) l.length (grownCap w l.length 0 5)) (Lib.bytesWorld w 5 (B l)) := by
    have := Lib.run_convert_string_bytes (P := Tryd.prog) w 9 39 5 (B l) Tryd.underlying9 Tryd.underlying39 Tryd.underlying5
    rwa [B_size] at this
  have hmade := Byt.made w l
  have hbel : Below w.heap.size w (Lib.bytesWorld w 5 (B l)) := Lib.bytesWorld_below _ _ _
  obtain ⟨cap, hcap⟩ : ∃ cap, cap = grownCap w l.length 0 5 := ⟨_, rfl⟩
  obtain ⟨W0, hW0⟩ : ∃ W0, W0 = Lib.bytesWorld w 5 (B l) := ⟨_, rfl⟩
  rw [← hcap, ← hW0] at hcv
  rw [← hW0] at hmade hbel
  have HM := Lib.hid hmade
  have HB := Lib.hid hbel
  clear hcap hW0 hmade hbel
  go_enter Tryd.func30, Tryd.ntmps30
  go_wp2_with fail
  go_loopw [10] (fun n wr => ∃ k : Nat, k ≤ l.length ∧ n = .int .i64 k ∧ Byt wr w.heap.size (upTo k l) ∧ Below w.heap.size w wr) (fun n _ => l.length - (intOf n).toNat)
  case atStart => exact ⟨0, Nat.zero_le _, rfl, by rw [upTo_zero]; exact HM.out, HB.out⟩
  case round =>
    obtain ⟨k, hk, rfl, hby, hB⟩ := hrel
    by_cases hlt : k < l.length
    · obtain ⟨hc, hf⟩ := hby k (by rw [upTo_length]; exact hlt)
      rw [upTo_get l k hlt] at hc
      have hsucc := upTo_succ l k hlt
      have hsame := upTo_same l k hlt
      obtain ⟨c, hcc⟩ : ∃ c, c = l[k] := ⟨_, rfl⟩
      rw [← hcc] at hc hsucc hsame
      have hlen := upTo_length l k
      have HBY := Lib.hid hby
      have HS := Lib.hid hsucc
      have HSS := Lib.hid hsame
      have HL := Lib.hid hlen
      clear hby hcc hsucc hsame hlen
      by_cases h1 : 97 ≤ c ∧ c ≤ 122
      · obtain ⟨h1, h2⟩ := h1
        have hu : upB c = c - 32 := by simp [upB, h1, h2]
        have h1' : 97 ≤ (c.toNat : Int) := by have := UInt8.le_iff_toNat_le.1 h1; simp at this; omega
        have h2' : (c.toNat : Int) ≤ 122 := by have := UInt8.le_iff_toNat_le.1 h2; simp at this; omega
        have he : ((c - 32).toNat : Int) = (c.toNat : Int) - 97 + 65 := by
          rw [UInt8.toNat_sub_of_le _ _ (by rw [UInt8.le_iff_toNat_le]; simp; omega)]; simp; omega
        have HU := Lib.hid hu
        have HEE := Lib.hid he
        clear hu h1 h2 he
        go_wp2_with fail
        rw [← HEE.out]
        refine ⟨⟨k + 1, by omega, by go_num, ?_, hB.setCell (by simp) _⟩, by simp [intOf]; omega⟩
        rw [HS.out, HU.out]
        exact HBY.out.set_ k _ (by rw [HL.out]; exact hlt)
      · have hu : upB c = c := by simp [upB]; intro a b; exact absurd ⟨a, b⟩ h1
        have hr := HSS.out hu
        have HR := Lib.hid hr
        clear hu hr
        by_cases h2 : 97 ≤ (c.toNat : Int)
        · have h3 : 122 < (c.toNat : Int) := by
            rcases Int.lt_or_le 122 (c.toNat : Int) with h | h
            · exact h
            · exact absurd ⟨UInt8.le_iff_toNat_le.2 (by simp; omega), UInt8.le_iff_toNat_le.2 (by simp; omega)⟩ h1
          clear h1
          go_wp2_with fail
          go_roundw
          case rel => exact ⟨k + 1, by omega, by go_num, by rw [HR.out]; exact HBY.out, hB⟩
          case measure => simp [intOf]; omega
        · have h3 : (c.toNat : Int) < 97 := by omega
          clear h1 h2
          go_wp2_with fail
          go_roundw
          case rel => exact ⟨k + 1, by omega, by go_num, by rw [HR.out]; exact HBY.out, hB⟩
          case measure => simp [intOf]; omega
    · have hd := upTo_all l k (by omega)
      rw [hd] at hby
      have hcv2 : (convert 39 9 (.slice (some ⟨w.heap.size, 0, none⟩) l.length cap)).run Tryd.prog wr = .ok (.string ⟨(up l).toArray⟩) wr := by
        have := run_convert_bytes_back (P := Tryd.prog) wr 39 9 5 ⟨w.heap.size, 0, none⟩ cap (up l) Tryd.underlying39 Tryd.underlying5 Tryd.underlying9 (fun j hj => by rw [Lib.add_plain, Nat.zero_add]; exact (hby j hj).1)
        have e : (up l).length = l.length := by simp [up]
        rwa [e] at this
      have HBY := Lib.hid hby
      clear hby hd
      go_wp2_with fail
      go_ret
      exact ⟨rfl, hB⟩

end Go.Proofs.YtmgifbibhodbbaaDoor

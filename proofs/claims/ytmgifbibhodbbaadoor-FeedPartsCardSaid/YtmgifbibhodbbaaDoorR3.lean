/- The contracts of the reference's Upper, and of its reader's Next, Word, Atom, Number. -/
import Derived.Test.YtmgifbibhodbbaaDoorR2
namespace Go.Proofs.YtmgifbibhodbbaaDoor
open Go.RowKit

theorem conv_one (W : World) (g : Nat) (x : Int) (c : UInt8) (hx : x = (c.toNat : Int)) (hc : W.cell? ⟨g, 0, none⟩ = some (.int .u8 x)) :
    (convert 39 9 (.slice (some ⟨g, 0, none⟩) 1 1)).run Tryd.prog W = .ok (.string (B [c])) W := by
  subst hx
  exact run_convert_bytes_back (P := Tryd.prog) W 39 9 5 ⟨g, 0, none⟩ 1 [c] Tryd.underlying39 Tryd.underlying5 Tryd.underlying9 (fun j hj => by
    have : j = 0 := by simpa using hj
    subst this
    rw [Lib.add_plain]
    simpa using hc)
@[go_sem] theorem B_append (a b : List UInt8) : B a ++ B b = B (a ++ b) := by
  apply Go.WideShapes.bytes_inj
  simp [B]

theorem up_take (l : List UInt8) (k : Nat) (h : k < l.length) : up (l.take (k + 1)) = up (l.take k) ++ [upB l[k]] := by
  unfold up; rw [List.take_succ_eq_append_getElem h, List.map_append]; rfl

set_option maxHeartbeats 800000 in
set_option maxRecDepth 100000 in
theorem refUpper_any (l : List UInt8) (w : World) (hl : l.length ≤ 1048576) :
    Calls Tryd.prog 31 #[.string (B l)] w fun e w' => e = .returned (.string (B (up l))) ∧ Below w.heap.size w w' := by
  go_enter Tryd.func31, Tryd.ntmps31
  go_wp2_with fail
  go_loopw [3, 4] (fun o n wr => ∃ k : Nat, k ≤ l.length ∧ n = .int .i64 k ∧ o = .string (B (up (l.take k))) ∧ Below w.heap.size w wr) (fun _ n _ => l.length - (intOf n).toNat)
  case atStart => exact ⟨0, Nat.zero_le _, rfl, by simp [up, B], Below.refl _ _⟩
  case round =>
    obtain ⟨k, hk, rfl, rfl, hB⟩ := hrel
    by_cases hlt : k < l.length
    · have hup := up_take l k hlt
      have HU := Lib.hid hup
      have hul : (up (l.take k)).length ≤ 1048576 := by simp [up]; omega
      clear hup
      have hcv : (convert 39 9 (.slice (some ⟨wr.heap.size, 0, none⟩) 1 1)).run Tryd.prog (wr.alloc (.cells #[.int .u8 (l[k].toNat : Int)] 5)) = .ok (.string (B [l[k]])) (wr.alloc (.cells #[.int .u8 (l[k].toNat : Int)] 5)) :=
        conv_one _ _ _ _ rfl (by simp [World.cell?_alloc_new])
      by_cases h1 : 97 ≤ (l[k].toNat : Int)
      · by_cases h2 : (l[k].toNat : Int) ≤ 122
        · have hu : upB l[k] = l[k] - 32 := by
            unfold upB
            rw [if_pos ⟨UInt8.le_iff_toNat_le.2 (by simp; omega), UInt8.le_iff_toNat_le.2 (by simp; omega)⟩]
          have he : (l[k].toNat : Int) - 32 = ((l[k] - 32).toNat : Int) := by
            rw [UInt8.toNat_sub_of_le _ _ (by rw [UInt8.le_iff_toNat_le]; simp; omega)]; simp; omega
          have hcv2 : (convert 39 9 (.slice (some ⟨wr.heap.size, 0, none⟩) 1 1)).run Tryd.prog (wr.alloc (.cells #[.int .u8 ((l[k].toNat : Int) - 32)] 5)) = .ok (.string (B [l[k] - 32])) (wr.alloc (.cells #[.int .u8 ((l[k].toNat : Int) - 32)] 5)) :=
            conv_one _ _ _ _ he (by simp [World.cell?_alloc_new])
          have HH := Lib.hid hu
          clear hcv hu he
          go_wp2_with fail
          go_roundw
          case rel => exact ⟨k + 1, by omega, by go_num, by rw [HU.out, HH.out], below_on hB (below_alloc (Below.refl _ _) _)⟩
          case measure => simp [intOf]; omega
        · have h3 : 122 < (l[k].toNat : Int) := by omega
          have hu : upB l[k] = l[k] := by
            unfold upB
            rw [if_neg (fun h => by have := UInt8.le_iff_toNat_le.1 h.2; simp at this; omega)]
          have HH := Lib.hid hu
          clear hu h2
          go_wp2_with fail
          go_roundw
          case rel => exact ⟨k + 1, by omega, by go_num, by rw [HU.out, HH.out], below_on hB (below_alloc (Below.refl _ _) _)⟩
          case measure => simp [intOf]; omega
      · have h3 : (l[k].toNat : Int) < 97 := by omega
        have hu : upB l[k] = l[k] := by
          unfold upB
          rw [if_neg (fun h => by have := UInt8.le_iff_toNat_le.1 h.1; simp at this; omega)]
        have HH := Lib.hid hu
        clear hu h1
        go_wp2_with fail
        go_roundw
        case rel => exact ⟨k + 1, by omega, by go_num, by rw [HU.out, HH.out], below_on hB (below_alloc (Below.refl _ _) _)⟩
        case measure => simp [intOf]; omega
    · have hk' : k = l.length := by omega
      have HK := Lib.hid hk'
      clear hk'
      go_wp2_with fail
      go_ret
      exact ⟨ret_B (by rw [HK.out, List.take_length]), hB⟩

end Go.Proofs.YtmgifbibhodbbaaDoor

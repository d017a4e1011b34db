/- The number of a literal's head at the end of a text. -/
import Derived.Test.YtmgifbibhodbbaaDoorF5
import Derived.Test.YtmgifbibhodbbaaDoorR5
namespace Go.Proofs.YtmgifbibhodbbaaDoor
open Go.RowKit

theorem headNo_false {l : List UInt8} (h : headNo l = false) : ∃ i : Nat, braceI l = i ∧ i + 1 ≤ l.length - 1 ∧ 1 ≤ l.length := by
  unfold headNo at h
  simp only [Bool.or_eq_false_iff, decide_eq_false_iff_not, Bool.not_eq_false'] at h
  obtain ⟨h1, h2⟩ := h
  have hs : [125] <:+ l := List.isSuffixOf_iff_suffix.1 h2
  obtain ⟨t, rfl⟩ := hs
  rcases Lib.lastIndexByte_spec (B (t ++ [125])) 123 with ⟨e, _⟩ | ⟨i, hi, e, hc, _⟩
  · unfold braceI at h1; rw [e] at h1; omega
  · refine ⟨i, e, ?_, by simp⟩
    rw [B_size] at hi
    have hne : i ≠ t.length := by
      intro e'
      subst e'
      simp [B] at hc
    simp at hi ⊢
    omega
theorem brace_le (l : List UInt8) : -1 ≤ braceI l ∧ braceI l < l.length + 1 := by
  unfold braceI
  rcases Lib.lastIndexByte_spec (B l) 123 with ⟨e, _⟩ | ⟨i, hi, e, _⟩
  · rw [e]; omega
  · rw [e]; rw [B_size] at hi; omega

set_option maxHeartbeats 800000 in
theorem head_any {n₀ : Nat} (l : List UInt8) (w : World) (hl : l.length ≤ 1048576) (hE : Env n₀ w) :
    Calls Tryd.prog 79 #[.string (B l)] w fun e w' => e = .returned (.tuple #[.int .i64 (headP l).1, .bool (headP l).2]) ∧ Below w.heap.size w w' := by
  have hb := brace_le l
  have hsz : (B l).size < 4611686018427387904 := by rw [B_size]; omega
  have HE := Lib.hid hE; clear hE
  have L1 := Lib.hid (fun W => Tryd.strings_LastIndexByte (B l) 123 hsz W)
  have L2 := Lib.hid (fun W => Tryd.strings_HasSuffix (B l) (B [125]) W (by omega))
  have hd : Lib.hasSuffix (B l).data.toList (B [125]).data.toList = Lib.hasSuffix l [125] := by rw [B_data, B_data]
  rw [hd] at L2
  clear hd hsz
  obtain ⟨b, hb'⟩ : ∃ b, b = braceI l := ⟨_, rfl⟩
  obtain ⟨c, hc'⟩ : ∃ c, c = Lib.hasSuffix l [125] := ⟨_, rfl⟩
  have hbl : Lib.lastIndexByte (B l) 123 = b := by rw [hb']; rfl
  rw [hbl] at L1
  rw [← hc'] at L2
  rw [← hb'] at hb
  by_cases hn : headNo l = true
  · have hp : headP l = (0, false) := by unfold headP; rw [if_pos hn]
    rw [hp]
    unfold headNo at hn
    rw [← hb', ← hc'] at hn
    clear hb' hc' hp hbl
    by_cases h0 : b < 0
    · clear hn L2
      go_enter Tryd.func79, Tryd.ntmps79
      go_wp2_with (go_at_call 97; refine (L1.out _).mono ?_)
      rintro e w1 ⟨rfl, rfl⟩
      go_wp2_with fail
      exact bodyPost_ret (v := .tuple #[.int .i64 0, .bool false]) (by simp [results, Tryd.results79, go_sem]) rfl ⟨rfl, Below.refl _ _⟩
    · have hc : c = false := by
        cases c with
        | false => rfl
        | true => simp [h0] at hn
      subst hc
      clear hn
      go_enter Tryd.func79, Tryd.ntmps79
      go_wp2_with fail
      refine (L1.out _).mono ?_
      rintro e w1 ⟨rfl, rfl⟩
      go_wp2_with fail
      refine (L2.out _).mono ?_
      rintro e w1 ⟨rfl, rfl⟩
      go_wp2_with fail
      exact bodyPost_ret (v := .tuple #[.int .i64 0, .bool false]) (by simp [results, Tryd.results79, go_sem]) rfl ⟨rfl, Below.refl _ _⟩
  · have hn : headNo l = false := by simpa using hn
    obtain ⟨i, hi, hi1, hi2⟩ := headNo_false hn
    have hp : headP l = ((pNumber (headT l, false)).1, !(pNumber (headT l, false)).2.2 && (pNumber (headT l, false)).2.1.isEmpty) := by unfold headP; rw [if_neg (by simp [hn])]
    have hT : headT l = ((l.drop (i + 1)).take (l.length - 1 - (i + 1))) := by unfold headT; rw [hi]; rfl
    unfold headNo at hn
    rw [← hb', ← hc'] at hn
    have hc : c = true := by
      cases c with
      | true => rfl
      | false => simp at hn
    subst hc
    have hbi : b = i := by rw [hb', hi]
    subst hbi
    have hlen : (headT l).length ≤ 1048576 := by rw [hT]; simp; omega
    have hle := pNumber_le (headT l, false)
    rw [hp]
    generalize hx : pNumber (headT l, false) = x at *
    have NM := Lib.hid (fun (W : World) (g : Nat) (hg : n₀ ≤ g) (hE : Env n₀ W) (hr : Rd W g (headT l) false) => number_any g (headT l) false W hlen hg hE hr)
    rw [hx] at NM
    have HX := Lib.hid hx
    have hT' : (B l).extract (i + 1) (l.length - 1) = B (headT l) := by
      rw [hT, B_mid]
    have HT := Lib.hid hT'
    clear hb' hc' hp hbl hn hi hT hx hT'
    go_enter Tryd.func79, Tryd.ntmps79
    go_wp2_with (go_at_call 97; refine (L1.out _).mono ?_)
    rintro e w1 ⟨rfl, rfl⟩
    go_wp2_with (go_at_call 98; refine (L2.out _).mono ?_)
    rintro e w1 ⟨rfl, rfl⟩
    have hE8 := HE.out.le
    go_wp2_with (go_at_call 8; rw [HT.out]; refine (read_any _ _).mono ?_)
    rintro e w2 ⟨rfl, rfl⟩
    have hE2 := HE.out.below (below_alloc (Below.refl _ _) (.cells #[.string (B (headT l)), .bool false] 54))
    have hr2 : Rd (w1.alloc (.cells #[.string (B (headT l)), .bool false] 54)) w1.heap.size (headT l) false := Blk.new w1 54 _
    have hb2 : Below w1.heap.size w1 (w1.alloc (.cells #[.string (B (headT l)), .bool false] 54)) := below_alloc (Below.refl _ _) _
    have HE2 := Lib.hid hE2; have HR2 := Lib.hid hr2; have HB2 := Lib.hid hb2
    clear hE2 hr2 hb2
    go_wp2_with (go_at_call 14; refine (NM.out _ _ hE8 HE2.out HR2.out).mono ?_)
    rintro e w3 ⟨rfl, hr3, hg3⟩
    go_wp2_with (go_at_call 11; refine (end_any _ _ _ _ hr3).mono ?_)
    rintro e w4 ⟨rfl, rfl⟩
    go_wp2_with fail
    exact bodyPost_ret (v := .tuple #[.int .i64 x.1, .bool (!x.2.2 && x.2.1.isEmpty)]) (by simp [results, Tryd.results79, go_sem]) rfl ⟨rfl, HB2.out.grown hg3 HB2.out.size (fun k e => by injection e with e; omega)⟩

end Go.Proofs.YtmgifbibhodbbaaDoor

/- The walk of TokenReads. -/
import Derived.Test.YtmgifbibhodbbaaDoorK5
import Derived.Deep.QuietTactic
import Derived.RegionTactic
namespace Go.Proofs.YtmgifbibhodbbaaDoor
open Go.RowKit

theorem Both.drew {n₀ g h : Nat} {S : List UInt8} {s : Sta} {w : World} (hb : Both n₀ g h S s w) : Both n₀ g h S s w.drew := hb.below (Below.refl _ _).drew

theorem below_drewOf {w w' : World} (h : ∃ n, w' = w.drewN n) (B : Nat) : Below B w w' := by
  obtain ⟨n, rfl⟩ := h
  exact below_drewN (Below.refl _ _) n
theorem Both.drewOf {n₀ g h : Nat} {S : List UInt8} {s : Sta} {w w' : World} (hd : ∃ n, w' = w.drewN n) (hb : Both n₀ g h S s w) : Both n₀ g h S s w' := hb.below (below_drewOf hd _)
theorem Both.failed {n₀ g h : Nat} {S : List UInt8} {s : Sta} {w : World} (hb : Both n₀ g h S s w) : w.cell? ⟨h, 2, none⟩ = some (.bool s.2) := by
  obtain ⟨a, _, hr, _⟩ := hb.rr
  exact hr.cell 2
theorem stay2 {n b o : Nat} {W W' : World} {x y : Value} (hb : Below n W W') (hbb : b < n) (h : W.cell? ⟨b, o, none⟩ = some x ∧ W.cell? ⟨b, o + 1, none⟩ = some y) : W'.cell? ⟨b, o, none⟩ = some x ∧ W'.cell? ⟨b, o + 1, none⟩ = some y :=
  ⟨(hb.cell (p := ⟨b, o, none⟩) hbb).trans h.1, (hb.cell (p := ⟨b, o + 1, none⟩) hbb).trans h.2⟩

/-- from operation k on a region only reads, calls quietly, or draws -/
theorem wpAny_quiet_from {P : Program} {ops : Array Oper} {Q : Exit → Act → World → Prop} {k m : Nat} {listed : Array Bool} {a : Act} {w : World} {l : List Oper} (hm : m = l.length) (hs : Region.noSelect ops = true)
    (hl : l = ops.toList.drop k) (hB : Region.lexFrom .any ops l.length k listed = true)
    (h : wpQuiet P ops (fun w' => ∃ n, w' = w.drewN n) (fun a' => ∀ w', (∃ n, w' = w.drewN n) → Q .normal a' w') l a) : wpAny P .any ops Q m listed a w := by
  subst hm
  exact wpAny_of_quiet (Q := fun a' => ∀ w', (∃ n, w' = w.drewN n) → Q .normal a' w') (fun _ w' hw' h => h w' hw') _ _ _ _ ⟨0, by simp [World.drewN_zero]⟩
    (wpAnyQ_lex hs l k listed a (fun j => by rw [hl]; simp) hB h)

/-- what is asked -/
structure Ask where
  what : Nat
  word : List UInt8
def Ask.ok (a : Ask) : Prop := a.what < 256 ∧ a.word.length ≤ maxLen
/-- asks that lie in a row below block n -/
def AsksAt (w : World) (n : Nat) (A : Option Addr) (L : List Ask) : Prop :=
  L ≠ [] → ∃ b o, A = some ⟨b, o, none⟩ ∧ b < n ∧ ∀ k r, L[k]? = some r → w.cell? ⟨b, o + k * 2, none⟩ = some (.int .u8 r.what) ∧ w.cell? ⟨b, o + k * 2 + 1, none⟩ = some (.string (B r.word))
theorem AsksAt.below {w w' : World} {n : Nat} {A : Option Addr} {L : List Ask} (h : AsksAt w n A L) (hb : Below n w w') : AsksAt w' n A L := fun hne => by
  obtain ⟨b, o, h1, h2, h3⟩ := h hne
  refine ⟨b, o, h1, h2, fun k r hk => ?_⟩
  obtain ⟨h4, h5⟩ := h3 k r hk
  exact ⟨(hb.cell (p := ⟨b, o + k * 2, none⟩) h2).trans h4, (hb.cell (p := ⟨b, o + k * 2 + 1, none⟩) h2).trans h5⟩

set_option maxHeartbeats 6400000 in
set_option maxRecDepth 100000 in
theorem reads_any (l : List UInt8) (A : Option Addr) (c : Nat) (L : List Ask) (w : World) (hE : Env w.heap.size w) (hL : AsksAt w w.heap.size A L) :
    Calls Tryd.prog 4 #[.string (B l), .slice A L.length c] w fun e w' => e = .returned (.bool true) ∧ Below w.heap.size w w' := by
  by_cases h2000 : 2000 < (l.length : Int)
  · go_enter Tryd.func4, Tryd.ntmps4
    go_wp2_with fail
    go_ret
    exact ⟨rfl, Below.refl _ _⟩
  · by_cases h40 : 40 < (L.length : Int)
    · have h2 : (l.length : Int) ≤ 2000 := by omega
      clear h2000
      go_enter Tryd.func4, Tryd.ntmps4
      go_wp2_with fail
      go_ret
      exact ⟨rfl, Below.refl _ _⟩
    · have h2 : (l.length : Int) ≤ 2000 := by omega
      have h3 : (L.length : Int) ≤ 40 := by omega
      have HE := Lib.hid hE; have HL := Lib.hid hL
      clear h2000 h40 hE hL
      go_enter Tryd.func4, Tryd.ntmps4
      go_wp2_with fail
      refine (read_any l _).mono ?_
      rintro e w1 ⟨rfl, hw1⟩
      have a1 : Rd w1 w.heap.size l false := by rw [hw1]; exact Blk.new w 54 _
      have b1 : Below w.heap.size w w1 := by rw [hw1]; exact below_alloc (Below.refl _ _) _
      have hs1 : w1.heap.size = w.heap.size + 1 := by rw [hw1]; simp
      have A1 := Lib.hid a1; have B1 := Lib.hid b1; have HS1 := Lib.hid hs1
      clear a1 b1 hw1 hs1
      go_wp2_with fail
      obtain ⟨w2, hw2⟩ : ∃ w2, w1.alloc (.cells #[.string (B l), .int .i64 0, .bool false] 34) = w2 := ⟨_, rfl⟩
      have hboth : Both w.heap.size w.heap.size w1.heap.size l (l, false) w2 := by
        rw [← hw2]
        exact ⟨A1.out.alloc _, ⟨0, Nat.zero_le _, Blk.new w1 34 _, rfl⟩, (HE.out.on B1.out).on ((Below.refl _ _).alloc (by have := HS1.out; omega) _)⟩
      have hbw2 : Below w.heap.size w w2 := by rw [← hw2]; exact B1.out.alloc (by have := HS1.out; omega) _
      rw [hw2]
      obtain ⟨h, hh⟩ : ∃ h, h = w1.heap.size := ⟨_, rfl⟩
      have hgh : w.heap.size < h := by rw [hh]; have := HS1.out; omega
      rw [← hh] at hboth ⊢
      have HBO := Lib.hid hboth; have HBW := Lib.hid hbw2
      clear hw2 hboth hbw2 hh
      go_loopw [7] (fun i X => ∃ k : Nat, k ≤ L.length ∧ i = .int .i64 k ∧ ∃ s, Both w.heap.size w.heap.size h l s X ∧ Below w.heap.size w X) (fun i _ => L.length - (intOf i).toNat)
      case atStart => exact ⟨0, Nat.zero_le _, rfl, _, HBO.out, HBW.out⟩
      case round =>
        obtain ⟨k, hk, rfl, s, hbo, hbw⟩ := hrel
        have hle := HE.out.le
        by_cases hlt : k < L.length
        · obtain ⟨r, hr⟩ : ∃ r, L[k]? = some r := ⟨_, List.getElem?_eq_getElem hlt⟩
          obtain ⟨b, o, rfl, hbb, hcells⟩ := HL.out.below hbw (fun e => by rw [e] at hlt; simp at hlt)
          obtain ⟨e0, e1⟩ := hcells k r hr
          have hl := hbo.rr.len
          have HB := Lib.hid hbo; have HW := Lib.hid hbw; have HR := Lib.hid hr
          clear hbo hbw hr hcells
          by_cases h20 : 20 < (r.word.length : Int)
          · go_wp2_with fail
            go_ret
            exact ⟨rfl, HW.out⟩
          · have h20' : (r.word.length : Int) ≤ 20 := by omega
            clear h20
            go_wp2_with fail
            obtain ⟨⟨l', f'⟩, hst⟩ : ∃ s', s' = askS r.what r.word s := ⟨_, rfl⟩
            have hask : ∀ W, Both w.heap.size w.heap.size h l s W → Calls Tryd.prog 20 #[.pointer (some ⟨w.heap.size, 0, none⟩), .pointer (some ⟨h, 0, none⟩), .agg #[.int .u8 r.what, .string (B r.word)]] W (AskPost w.heap.size w.heap.size h l (l', f') W) := fun W hW => by
              rw [hst]; exact asked_any r.what r.word (by omega) (by omega) (Nat.le_refl _) (by omega) (by omega) hW
            have HA := Lib.hid hask
            clear hask hst
            have hk1 : (0 : Int) ≤ (k : Int) := Int.natCast_nonneg _
            have hk2 : (k : Int) < (L.length : Int) := by omega
            refine wp_region_any (by kernel_rfl) ?_
            change wpAny _ _ _ _ _ _ _ (World.drew _)
            refine wpAny_take (i := 0) (v := ?_) rfl (by kernel_rfl) (by kernel_rfl) (by kernel_rfl) (fun _ _ _ h => h) (Or.inl ⟨by rfl, ?_⟩) ?_
            rotate_left
            · intro W0; go_simp; with_reducible rfl
            refine wpAny_take (i := 1) (v := ?_) rfl (by kernel_rfl) (by kernel_rfl) (by kernel_rfl) (fun _ _ _ h => h) (Or.inl ⟨by rfl, ?_⟩) ?_
            rotate_left
            · intro W0; go_simp; with_reducible rfl
            refine wpAny_take (i := 2) (v := ?_) rfl (by kernel_rfl) (by kernel_rfl) (by kernel_rfl) (fun _ _ _ h => h) (Or.inl ⟨by rfl, ?_⟩) ?_
            rotate_left
            · intro W0; go_simp; with_reducible rfl
            refine wpAny_take (i := 3) (v := ?_) rfl (by kernel_rfl) (by kernel_rfl) (by kernel_rfl) (fun _ _ _ h => h) (Or.inl ⟨by rfl, ?_⟩) ?_
            rotate_left
            · intro W0; go_simp; with_reducible rfl
            refine wpAny_take (i := 4) (v := ?_) rfl (by kernel_rfl) (by kernel_rfl) (by kernel_rfl) (fun _ _ _ h => h) (Or.inl ⟨by rfl, ?_⟩) ?_
            rotate_left
            · intro W0; go_simp; with_reducible rfl
            refine wpAny_ready (rs := [5]) (by kernel_rfl) (by simp) ?_
            refine AllReady.cons rfl (fun K hK => ?_) AllReady.nil
            go_simp
            refine hK _ _ ?_; clear hK K
            refine wpAny_ready (rs := [6]) (by kernel_rfl) (by simp) ?_
            refine AllReady.cons rfl (fun K hK => ?_) AllReady.nil
            go_simp
            refine (HA.out _ HB.out.drew).mono ?_
            rintro e w3 ⟨rfl, kb, q3⟩
            refine hK _ _ ?_; clear hK K
            have hl3 : l'.length ≤ l.length := kb.rr.len
            have c3 := kb.failed
            have n12 : ∀ m, Calls Tryd.prog 12 #[.pointer (some ⟨w.heap.size, 0, none⟩)] (w3.drewN m) fun e w' => e = .returned (.int .i64 l'.length) ∧ w' = w3.drewN m := fun m => (left_any w.heap.size l' f' _ (by unfold maxLen; omega) (Blk.drewN kb.rd m)).mono fun e w' ⟨h1, h2⟩ => ⟨h1, h2.symm⟩
            have n21 : ∀ m, Calls Tryd.prog 21 #[.pointer (some ⟨h, 0, none⟩)] (w3.drewN m) fun e w' => e = .returned (.string (B l')) ∧ ∃ n, w' = (w3.drewN m).drewN n := fun m => Rr.rest (rr_drewN kb.rr m)
            have n10 : ∀ m, Calls Tryd.prog 10 #[.pointer (some ⟨w.heap.size, 0, none⟩)] (w3.drewN m) fun e w' => e = .returned (.bool (!f')) ∧ w' = w3.drewN m := fun m => (ok_any w.heap.size l' f' _ (Blk.drewN kb.rd m)).mono fun e w' ⟨h1, h2⟩ => ⟨h1, h2.symm⟩
            have n11 : ∀ m, Calls Tryd.prog 11 #[.pointer (some ⟨w.heap.size, 0, none⟩)] (w3.drewN m) fun e w' => e = .returned (.bool (!f' && l'.isEmpty)) ∧ w' = w3.drewN m := fun m => (end_any w.heap.size l' f' _ (Blk.drewN kb.rd m)).mono fun e w' ⟨h1, h2⟩ => ⟨h1, h2.symm⟩
            have hnext : ∃ s', Both w.heap.size w.heap.size h l s' w3 ∧ Below w.heap.size w w3 := ⟨_, kb, HW.out.trans ⟨q3.os, q3.tape, q3.output, q3.size, q3.block⟩⟩
            have N12 := Lib.hid n12; have N21 := Lib.hid n21; have N10 := Lib.hid n10; have N11 := Lib.hid n11; have HNX := Lib.hid hnext
            clear n12 n21 n10 n11 hnext kb q3 HA
            cases f' with
            | true =>
              refine wpAny_quiet_from (k := 7) (by rfl) (by kernel_rfl) rfl (by kernel_rfl) ?_
              simp only [List.drop_succ_cons, List.drop_zero]
              repeat (quiet_step ((first | (go_at_call 12; exact Calls.quiet_of_same (N12.out _)) | (go_at_call 21; exact Calls.quiet_of (N21.out _)) | (go_at_call 10; exact Calls.quiet_of_same (N10.out _)) | (go_at_call 11; exact Calls.quiet_of_same (N11.out _)))))
              refine wpQuiet_nil ?_
              intro _ hw'
              obtain ⟨nq, hw''⟩ := hw'
              subst hw''
              go_wp2_with fail
              go_roundw
              case rel =>
                obtain ⟨s', hb', hbl⟩ := HNX.out
                exact ⟨k + 1, by omega, by go_num, s', hb'.below (below_drewN (Below.refl _ _) nq), below_drewN hbl nq⟩
              case measure => simp [intOf]; omega
            | false =>
              refine wpAny_quiet_from (k := 7) (by rfl) (by kernel_rfl) rfl (by kernel_rfl) ?_
              simp only [List.drop_succ_cons, List.drop_zero]
              repeat (quiet_step ((first | (go_at_call 12; exact Calls.quiet_of_same (N12.out _)) | (go_at_call 21; exact Calls.quiet_of (N21.out _)) | (go_at_call 10; exact Calls.quiet_of_same (N10.out _)) | (go_at_call 11; exact Calls.quiet_of_same (N11.out _)))))
              refine wpQuiet_nil ?_
              intro _ hw'
              obtain ⟨nq, hw''⟩ := hw'
              subst hw''
              go_wp2_with fail
              go_roundw
              case rel =>
                obtain ⟨s', hb', hbl⟩ := HNX.out
                exact ⟨k + 1, by omega, by go_num, s', hb'.below (below_drewN (Below.refl _ _) nq), below_drewN hbl nq⟩
              case measure => simp [intOf]; omega
        · have hk' : k = L.length := by omega
          clear hlt
          go_wp2_with fail
          refine (awake_any _ (HE.out.on hbw)).mono ?_
          rintro e w3 ⟨rfl, b3⟩
          go_wp2_with fail
          go_ret
          exact ⟨rfl, hbw.trans (b3.mono (by have := hbw.size; omega))⟩

end Go.Proofs.YtmgifbibhodbbaaDoor

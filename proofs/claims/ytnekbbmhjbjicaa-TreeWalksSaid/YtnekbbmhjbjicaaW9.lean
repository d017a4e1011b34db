/- The walk of TreeWalks. -/
import Derived.Test.YtnekbbmhjbjicaaP4
import Derived.Deep.QuietTactic
namespace Go.Proofs.Ytnekbbmhjbjicaa
open Go.RowKit
attribute [local go_sem] Oper.semAt_some

/-- what stands in TreeWalks between two rounds of its second loop -/
def WCore (b D : Nat) (w2 : World) (k : Nat) (Y : World) : Prop := Blk Y b 3 #[.int .i64 k] ∧ Y.heap[D]? = some (.deferred (some [])) ∧ Below w2.heap.size w2 Y
def WInv (most b D : Nat) (w2 : World) (k : Nat) (Y : World) : Prop := k ≤ most ∧ WCore b D w2 k Y
theorem wcore_own (b D : Nat) (w2 : World) {B : Nat} (hb : b < B) (hD : D < B) (hB : w2.heap.size ≤ B) : OwnFrom B (WCore b D w2) := by
  rintro k X Y row ⟨h1, h2, h3⟩ hg hr
  exact ⟨own_blk (β := Unit) (B := B) hb _ _ () X Y row h1 hg hr, (hg.block D (Array.getElem?_eq_some_iff.1 h2).1 (fun e => by have := (hr D e.symm).1; omega)).trans h2, h3.grown hg h3.size (fun j e => by have := (hr j e).1; omega)⟩
theorem winv_own (most b D : Nat) (w2 : World) {B : Nat} (hb : b < B) (hD : D < B) (hB : w2.heap.size ≤ B) : OwnFrom B (WInv most b D w2) := fun k X Y row h hg hr => ⟨h.1, wcore_own b D w2 hb hD hB k X Y row h.2 hg hr⟩

set_option maxRecDepth 100000 in
set_option maxHeartbeats 4000000 in
theorem walks_any (A : Option Addr) (c : Nat) (L : List Rc) (gap most : Nat) (w : World) (hgap : gap < 256) (hmost : most < 256) (hok : ∀ r ∈ L, r.uid < 4294967296) (hl : RecsAt w w.heap.size A L) (hlen : L.length ≤ maxLen) :
    Calls Try.prog 5 #[.slice A L.length c, .int .u8 gap, .int .u8 most] w fun e w' => e = .returned (.bool true) ∧ Below w.heap.size w w' := by
  obtain ⟨W0, hW0⟩ : ∃ W0, ((w.alloc (.cells #[.slice A L.length c] 22)).alloc (.cells #[.int .u8 most] 5)).alloc (.cells #[.bool false] 4) = W0 := ⟨_, rfl⟩
  have hb0 : Below w.heap.size w W0 := by rw [← hW0]; exact below_alloc (below_alloc (below_alloc (Below.refl _ _) _) _) _
  have hs0 : W0.heap.size = w.heap.size + 3 := by rw [← hW0]; simp
  have p0 : Blk W0 w.heap.size 22 #[.slice A L.length c] := by rw [← hW0]; exact ((Blk.new w 22 #[.slice A L.length c]).alloc _).alloc _
  have p1 : Blk W0 (w.heap.size + 1) 5 #[.int .u8 most] := by rw [← hW0]; have := (Blk.new (w.alloc (.cells #[.slice A L.length c] 22)) 5 #[.int .u8 most]).alloc (.cells #[.bool false] 4); simpa using this
  have p2 : Blk W0 (w.heap.size + 1 + 1) 4 #[.bool false] := by rw [← hW0]; have := Blk.new ((w.alloc (.cells #[.slice A L.length c] 22)).alloc (.cells #[.int .u8 most] 5)) 4 #[.bool false]; simpa using this
  have hrecs : ∀ w1 : World, Below w.heap.size w w1 → RecsAt w1 w1.heap.size A L := fun w1 hb he => by
    obtain ⟨g, o, h2, h3, h4⟩ := hl.below hb he
    have := hb.size
    exact ⟨g, o, h2, by omega, h4⟩
  have hgr := great_any A c W0.heap.size L 120 W0 (Nat.le_refl _) (hrecs W0 hb0) hlen (by omega)
  have e120 : ((120 : Nat) : Int) = 120 := rfl
  rw [e120] at hgr
  have c0 : W0.cell? ⟨w.heap.size, 0, none⟩ = some (.slice A L.length c) := p0.cell 0
  have c2 : W0.cell? ⟨w.heap.size + 1 + 1, 0, none⟩ = some (.bool false) := p2.cell 0
  have f2 : W0.frozen? ⟨w.heap.size + 1 + 1, 0, none⟩ = false := p2.frozen 0
  have P0 := Lib.hid p0; have P1 := Lib.hid p1; have P2 := Lib.hid p2; have HW0 := Lib.hid hW0; have HB0 := Lib.hid hb0
  clear p0 p1 p2 hW0 hb0
  cases hg : greatB L 120 with
  | true =>
    rw [hg] at hgr
    have HGR := Lib.hid hgr
    clear hgr e120 hrecs
    refine of_callsIn (n := 0) (callsIn_of_wp_marks Try.func5 rfl trivial (wpIn_wide.2 ?_))
    simp only [Try.ntmps5, List.size_toArray, List.length_cons, List.length_nil, Nat.reduceAdd, Nat.reduceSub, Array.replicate_succ, Array.replicate_zero, List.push_toArray, List.append_toArray, List.nil_append, List.cons_append]
    go_wp2_with (first
      | (go_at_call 10; rw [HW0.out]; refine HGR.out.mono ?_; rintro e w1 ⟨rfl, hb1⟩; have q2 := P2.out.stay hb1; have d2 : w1.cell? ⟨w.heap.size + 1 + 1, 0, none⟩ = some (.bool false) := q2.cell 0; have d2f : w1.frozen? ⟨w.heap.size + 1 + 1, 0, none⟩ = false := q2.frozen 0))
    have g2 : (w1.setCell ⟨w.heap.size + 1 + 1, 0, none⟩ (.bool true)).cell? ⟨w.heap.size + 1 + 1, 0, none⟩ = some (.bool true) := (q2.set_ 0 (.bool true)).cell 0
    exact ⟨.bool true, by simp [results, Try.results5, go_sem, g2], rfl, (below_on HB0.out hb1).setCell (by simp; omega) _⟩
  | false =>
    rw [hg] at hgr
    obtain ⟨hl120, hrb⟩ := greatB_false hg
    obtain ⟨hso, hup⟩ := rightB_sorted hrb
    have hst : ∀ w1 : World, Below w.heap.size w w1 → Calls Try.prog 11 #[.slice A L.length c, .int .i64 ((gap : Int) % 9), .int .i64 ((gap : Int) % 2)] w1 (StandOK L (gap % 9) (gap % 2) w1) := fun w1 hb => by
      have := standOK A c (gap % 9) (gap % 2) L w1 hso hok (hrecs w1 hb) (by omega) (by omega) (by omega)
      have e : ((gap % 9 : Nat) : Int) = (gap : Int) % 9 := by omega
      have e' : ((gap % 2 : Nat) : Int) = (gap : Int) % 2 := by omega
      rw [e, e'] at this
      exact this
    have HGR := Lib.hid hgr; have HST := Lib.hid hst; have HRECS := Lib.hid hrecs
    clear hgr hst e120 hg hrb hrecs hl
    refine of_callsIn (n := 0) (callsIn_of_wp_marks Try.func5 rfl trivial (wpIn_wide.2 ?_))
    simp only [Try.ntmps5, List.size_toArray, List.length_cons, List.length_nil, Nat.reduceAdd, Nat.reduceSub, Array.replicate_succ, Array.replicate_zero, List.push_toArray, List.append_toArray, List.nil_append, List.cons_append]
    go_wp2_with (first
      | (go_at_call 10; rw [HW0.out]; refine HGR.out.mono ?_; rintro e w1 ⟨rfl, hb1⟩; have q0 := P0.out.stay hb1; have d0 : w1.cell? ⟨w.heap.size, 0, none⟩ = some (.slice A L.length c) := q0.cell 0))
    refine (HST.out _ (below_on HB0.out hb1)).mono ?_
    rintro e w2 ⟨V, vc, sh, root, h, rfl, hsh, ht, hb2, hne, hnil⟩
    have q00 := q0.stay hb2
    have d00 : w2.cell? ⟨w.heap.size, 0, none⟩ = some (.slice A L.length c) := q00.cell 0
    have hlt2 := q00.lt
    have hlt2' := q00.lt
    have hbw2 : Below w.heap.size w w2 := below_on (below_on HB0.out hb1) hb2
    have hstore := shelf_store V vc w2.heap.size sh
    have HT := Lib.hid ht; have HS := Lib.hid hstore; have HSH := Lib.hid hsh; have HB2 := Lib.hid hbw2; have HNE := Lib.hid hne; have HNIL := Lib.hid hnil
    have Q1 := Lib.hid ((P1.out.stay hb1).stay hb2); have Q2 := Lib.hid ((P2.out.stay hb1).stay hb2); have Q0 := Lib.hid q00
    have hin : ∀ W : World, Below w2.heap.size w2 W → (w2.heap.size ≤ W.heap.size ∧ ShelfAt W w2.heap.size V sh) := fun W hb => ⟨hb.size, HSH.out.below hb⟩
    have HIN := Lib.hid hin
    have hneg : ∀ s, s < 0 → stOf sh s = none := fun s hs => stOf_neg hs
    have hlv := HT.out.leaves HS.out.less
    have hall : ∀ W : World, Below w2.heap.size w2 W → Calls Try.prog 22 #[.iface 26 (.slice V sh.length vc), .agg #[.int .i64 root, .int .i64 h], .int .i64 L.length] W fun e w' => ∃ V' c', e = .returned (.tuple #[.slice V' L.length c', .bool true]) ∧
        RecsAt w' w'.heap.size V' L ∧ Below W.heap.size W w' := fun W hb => by
      have := all_any HS.out hneg h root h L.length W (HIN.out W hb) (HT.out.deep HS.out.less) (by rw [hlv]; exact Nat.le_refl _) (by omega)
      rw [hlv] at this
      exact this
    have HALL := Lib.hid hall; have HLV := Lib.hid hlv
    clear ht hstore hsh hbw2 hne hnil hin hall hlv hb1 hb2 q0 q00 d0
    obtain ⟨W3, hW3⟩ : ∃ W3, (w2.alloc (.cells #[.slice V sh.length vc] 26)).alloc (.cells #[.int .i64 root, .int .i64 h] 28) = W3 := ⟨_, rfl⟩
    have hb3 : Below w2.heap.size w2 W3 := by rw [← hW3]; exact below_alloc (below_alloc (Below.refl _ _) _) _
    have r7 : Blk W3 w2.heap.size 26 #[.slice V sh.length vc] := by rw [← hW3]; exact (Blk.new w2 26 #[.slice V sh.length vc]).alloc _
    have r8 : Blk W3 (w2.heap.size + 1) 28 #[.int .i64 root, .int .i64 h] := by rw [← hW3]; have := Blk.new (w2.alloc (.cells #[.slice V sh.length vc] 26)) 28 #[.int .i64 root, .int .i64 h]; simpa using this
    have HW3 := Lib.hid hW3; have HB3 := Lib.hid hb3; have R7 := Lib.hid r7; have R8 := Lib.hid r8
    clear hW3 hb3 r7 r8
    go_wp2_with fail
    rw [HW3.out]
    refine (HALL.out _ HB3.out).mono ?_
    rintro e w4 ⟨V', c', rfl, hrec', hb4⟩
    have r0 := (Q0.out.stay HB3.out).stay hb4
    have r1 := (Q1.out.stay HB3.out).stay hb4
    have r2 := (Q2.out.stay HB3.out).stay hb4
    have r7 := R7.out.stay hb4
    have r8 := R8.out.stay hb4
    have e0 : w4.cell? ⟨w.heap.size, 0, none⟩ = some (.slice A L.length c) := r0.cell 0
    have hb4' := below_on HB3.out hb4
    have T0 := Lib.hid r0; have T1 := Lib.hid r1; have T2 := Lib.hid r2; have T7 := Lib.hid r7; have T8 := Lib.hid r8; have HB4 := Lib.hid hb4'; have HR := Lib.hid hrec'
    clear r0 r1 r2 r7 r8 hb4 hb4' hrec' d00 hlt2 HALL
    have hnil := not_nil53
    go_wp2_with (first
      | (go_at_call 23; refine (same_any V' A c' c L w4 HR.out (HRECS.out w4 (below_on HB2.out HB4.out)) (by omega)).mono ?_; rintro e w5 ⟨rfl, hb5⟩; have u7 := T7.out.stay hb5; have u8 := T8.out.stay hb5; have l8 := u8.lt; have x7 : w5.cell? ⟨w2.heap.size, 0, none⟩ = some (.slice V sh.length vc) := u7.cell 0; have x80 : w5.cell? ⟨w2.heap.size + 1, 0, none⟩ = some (.int .i64 root) := u8.cell 0; have x81 : w5.cell? ⟨w2.heap.size + 1, 1, none⟩ = some (.int .i64 h) := u8.cell 1))
    refine (slotsF_any root h 26 (.slice V sh.length vc) _).mono ?_
    rintro e w6 ⟨rfl, hw6⟩
    have v7 : Blk w6 w2.heap.size 26 #[.slice V sh.length vc] := by rw [hw6]; exact (u7.alloc _).alloc _
    have v8 : Blk w6 (w2.heap.size + 1) 28 #[.int .i64 root, .int .i64 h] := by rw [hw6]; exact (u8.alloc _).alloc _
    have va : Blk w6 w5.heap.size 28 #[.int .i64 root, .int .i64 h] := by rw [hw6]; exact (Blk.new w5 28 #[.int .i64 root, .int .i64 h]).alloc _
    have vb : Blk w6 (w5.heap.size + 1) 104 #[.iface 26 (.slice V sh.length vc)] := by rw [hw6]; have := Blk.new (w5.alloc (.cells #[.int .i64 root, .int .i64 h] 28)) 104 #[.iface 26 (.slice V sh.length vc)]; simpa using this
    have hb6 : Below w5.heap.size w5 w6 := by rw [hw6]; exact below_alloc (below_alloc (Below.refl _ _) _) _
    have hs6 : w5.heap.size + 2 = w6.heap.size := by rw [hw6]; simp
    have HS6 := Lib.hid hs6
    clear hs6
    have hb6' := below_on (below_on HB4.out hb5) hb6
    have y80 : w6.cell? ⟨w2.heap.size + 1, 0, none⟩ = some (.int .i64 root) := v8.cell 0
    have V7 := Lib.hid v7; have V8 := Lib.hid v8; have VA := Lib.hid va; have VB := Lib.hid vb; have HB6 := Lib.hid hb6'
    clear v7 v8 va vb hb6 hb6' u7 u8 x7 x80 x81 hw6 e0 hb5
    go_wp2_with fail
    obtain ⟨w7, hw7⟩ : ∃ w7, w6.alloc (.cells #[.int .i64 root] 3) = w7 := ⟨_, rfl⟩
    have z7 : Blk w7 w2.heap.size 26 #[.slice V sh.length vc] := by rw [← hw7]; exact V7.out.alloc _
    have z8 : Blk w7 (w2.heap.size + 1) 28 #[.int .i64 root, .int .i64 h] := by rw [← hw7]; exact V8.out.alloc _
    have za : Blk w7 w5.heap.size 28 #[.int .i64 root, .int .i64 h] := by rw [← hw7]; exact VA.out.alloc _
    have zb : Blk w7 (w5.heap.size + 1) 104 #[.iface 26 (.slice V sh.length vc)] := by rw [← hw7]; exact VB.out.alloc _
    have z12 : Blk w7 w6.heap.size 3 #[.int .i64 root] := by rw [← hw7]; exact Blk.new w6 3 _
    have hb7 : Below w2.heap.size w2 w7 := by rw [← hw7]; exact below_alloc HB6.out _
    have hs7 : w6.heap.size + 1 = w7.heap.size := by rw [← hw7]; simp
    have HS7 := Lib.hid hs7
    clear hs7
    rw [hw7]
    clear hw7 y80
    have hgives := slots1_gives HS.out hneg w2.heap.size (Nat.le_refl _) w7 hb7.size _ _ h root h zb za (HIN.out w7 hb7) (HT.out.deep HS.out.less)
    refine wp_range (encs := encS) (xs := wl (stOf sh) h root) (n₀ := w2.heap.size) rfl (Go.Proofs.enters_of Try.func44 (by kernel_rfl) rfl) hgives hb7.size (fun _ => rfl)
      (fun k X => Blk X w6.heap.size 3 #[.int .i64 (root + k)] ∧ Blk X w2.heap.size 26 #[.slice V sh.length vc] ∧ Blk X (w2.heap.size + 1) 28 #[.int .i64 root, .int .i64 h] ∧ Below w2.heap.size w2 X)
      (fun _ _ _ => False) ?_ (fun _ _ _ _ _ hX _ _ => hX) ⟨by simpa using z12, z7, z8, hb7⟩ ?round ?done ?stop
    · have := HS7.out
      have := HS6.out
      have hl8 := l8
      rintro k X Y row ⟨h1, h2, h3, h4⟩ hg hr
      exact ⟨own_blk (β := Unit) (B := w7.heap.size) (by omega) _ _ () X Y row h1 hg hr, own_blk (β := Unit) (B := w7.heap.size) (by omega) _ _ () X Y row h2 hg hr, own_blk (β := Unit) (B := w7.heap.size) (by omega) _ _ () X Y row h3 hg hr,
        h4.grown hg h4.size (fun j e => by have := (hr j e).1; omega)⟩
    case round =>
      rintro l' k ⟨slot, n⟩ X hl' hx ⟨x12, x7, x8, xb⟩
      obtain ⟨m, rfl, hm, hsm, hm2⟩ := slot_facts (by omega) (by omega) HNE.out HNIL.out hx
      obtain ⟨gA, oA, hVA, hgA, hcA⟩ := HSH.out (by intro e; rw [e] at hsm; simp at hsm)
      subst hVA
      have HCA := Lib.hid hcA
      clear hcA
      have X12 := Lib.hid x12; have X7 := Lib.hid x7; have X8 := Lib.hid x8; have XB := Lib.hid xb; have HX := Lib.hid hx; have HM := Lib.hid hm; have HSM := Lib.hid hsm
      clear x12 x7 x8 xb hx hm hsm hgives z7 z8 za zb z12 hnil
      gi_wp2_with (first
        | (refine wpListIn_store_new (nd := n) (Wide.round _) rfl (.tmp 14) (.tmp 57) rfl _ rfl rfl rfl ?_))
      refine ⟨(Held.refl _ _ _).alloc _, ⟨X12.out.alloc _, X7.out.alloc _, X8.out.alloc _, below_alloc XB.out _⟩, ?_⟩
      rintro Wb hblk hszb ⟨x12, x7, x8, xb⟩
      have xn := hblk _ _ _ (Blk.new X 60 n.cells)
      have y12 : Wb.cell? ⟨w6.heap.size, 0, none⟩ = some (.int .i64 m) := by rw [← HM.out]; exact x12.cell 0
      have f12 : Wb.frozen? ⟨w6.heap.size, 0, none⟩ = false := x12.frozen 0
      have y7 : Wb.cell? ⟨w2.heap.size, 0, none⟩ = some (.slice (some ⟨gA, oA, none⟩) sh.length vc) := x7.cell 0
      have hmlt : m < sh.length := (List.getElem?_eq_some_iff.1 HSM.out).1
      have hd1 : decide ((m : Int) ≥ sh.length) = false := by simp; omega
      have hd2 : decide (sh.length ≤ m) = false := by simp; omega
      have hd3 : ((m : Int) == m) = true := by simp
      have hi0 : (0 : Int) ≤ m := by omega
      have hi1 : (m : Int) < sh.length := by omega
      have B12 := Lib.hid x12; have B7 := Lib.hid x7; have B8 := Lib.hid x8; have BB := Lib.hid xb; have BN := Lib.hid xn
      clear hblk x12 x7 x8 xb xn
      gi_wp2_with fail
      refine wpIn_region_quiet (fun W => ∃ j, W = Wb.drewN j) (Wide.round _) (by kernel_rfl) (by kernel_rfl) ⟨1, rfl⟩ ?_
      repeat (quiet_step (fail))
      refine wq_want (by rfl) (.agg n.cells) (fun W hW => ?_) ?_
      · obtain ⟨j, rfl⟩ := hW
        exact run_load_nd (n := n) (.tmp 14) rfl rfl (fun j c hj => by rw [Nat.zero_add, World.cell?_drewN, BN.out.cell]; exact hj)
      simp only [Act.put, List.setIfInBounds_toArray, List.set_cons_zero, List.set_cons_succ]
      repeat (quiet_step (fail))
      refine wq_want (by rfl) (.agg n.cells) (fun W hW => ?_) ?_
      · obtain ⟨j, rfl⟩ := hW
        exact run_load_nd (n := n) (.tmp 71) rfl rfl (fun j c hj => by rw [World.cell?_drewN]; exact (BB.out.cell (p := ⟨gA, _, none⟩) hgA).trans (HCA.out m n HSM.out j c hj))
      simp only [Act.put, List.setIfInBounds_toArray, List.set_cons_zero, List.set_cons_succ]
      refine wq_want (by rfl) (.bool false) (fun W hW => run_neq_nd (.tmp 68) (.tmp 72) rfl rfl rfl) ?_
      simp only [Act.put, List.setIfInBounds_toArray, List.set_cons_zero, List.set_cons_succ]
      repeat (quiet_step (fail))
      refine wpQuiet_nil ?_
      rintro _ ⟨nq, rfl⟩
      gi_wp2_with fail
      refine ⟨((Held.of_below (below_drewN (Below.refl _ _) nq)).set_ (by simp; have := BB.out.size; have := HS6.out; have := l8; omega) (by have := HS7.out; simp; omega) _), ?_, ?_, ?_, ?_⟩
      · have h9 := B12.out.drewN nq |>.set_ 0 (.int .i64 (m + 1))
        have e9 : root + ((k + 1 : Nat) : Int) = m + 1 := by have := HM.out; omega
        rw [e9]; exact h9
      · exact (B7.out.drewN nq).far (by simp; have := HS6.out; have := l8; omega) _
      · exact (B8.out.drewN nq).far (by simp; have := HS6.out; have := l8; omega) _
      · exact (below_drewN BB.out nq).setCell (by simp; have := HS6.out; have := l8; omega) _
    case done =>
      rintro D X hD ⟨x12, x7, x8, xb⟩ hK
      obtain ⟨he1, he2⟩ := slot_end (gap := gap % 9) (more := gap % 2) (by omega) (by omega) HNE.out HNIL.out
      generalize hN : (wl (stOf sh) h root).length = N at he1 he2 x12
      have t0 := Q0.out.below xb hlt2'
      have t1 := Q1.out.below xb Q1.out.lt
      have t2 := Q2.out.below xb Q2.out.lt
      have y0 : X.cell? ⟨w.heap.size, 0, none⟩ = some (.slice A L.length c) := t0.cell 0
      have y7 : X.cell? ⟨w2.heap.size, 0, none⟩ = some (.slice V sh.length vc) := x7.cell 0
      have y12 : X.cell? ⟨w6.heap.size, 0, none⟩ = some (.int .i64 (root + N)) := x12.cell 0
      have y80 : X.cell? ⟨w2.heap.size + 1, 0, none⟩ = some (.int .i64 root) := x8.cell 0
      have y81 : X.cell? ⟨w2.heap.size + 1, 1, none⟩ = some (.int .i64 h) := x8.cell 1
      have T0 := Lib.hid t0; have T1 := Lib.hid t1; have T2 := Lib.hid t2; have X7 := Lib.hid x7; have X8 := Lib.hid x8; have XB := Lib.hid xb; have HK := Lib.hid hK
      have HE1 := Lib.hid he1; have HE2 := Lib.hid he2
      clear t0 t1 t2 x7 x8 x12 xb hK he1 he2 hgives z7 z8 za zb z12 hnil
      have hl0 : w.heap.size < X.heap.size := T0.out.lt
      have hl7 : w2.heap.size + 1 < X.heap.size := X8.out.lt
      have hl7' : w2.heap.size < X.heap.size := X7.out.lt
      by_cases hL : 0 < L.length
      · have e1 := HE1.out hL
        have d1 : decide (0 < L.length) = true := decide_eq_true hL
        have d1' : decide ((0 : Int) < L.length) = true := decide_eq_true (by omega)
        have d2 : ((L.length : Int) == 0) = false := beq_eq_false_iff_ne.2 (by omega)
        rw [e1] at y12
        go_wp2_with fail
        refine (walkF_any root h 26 (.slice V sh.length vc) _).mono ?_
        rintro e w8 ⟨rfl, hw8⟩
        simp only [World.size_alloc]
        have k15 : Blk w8 X.heap.size 3 #[.int .i64 0] := by rw [hw8]; exact ((Blk.new X 3 #[.int .i64 0]).alloc _).alloc _
        have ka : Blk w8 (X.heap.size + 1) 28 #[.int .i64 root, .int .i64 h] := by rw [hw8]; have := (Blk.new (X.alloc (.cells #[.int .i64 0] 3)) 28 #[.int .i64 root, .int .i64 h]).alloc (.cells #[.iface 26 (.slice V sh.length vc)] 104); simpa using this
        have kb : Blk w8 (X.heap.size + 1 + 1) 104 #[.iface 26 (.slice V sh.length vc)] := by rw [hw8]; have := Blk.new ((X.alloc (.cells #[.int .i64 0] 3)).alloc (.cells #[.int .i64 root, .int .i64 h] 28)) 104 #[.iface 26 (.slice V sh.length vc)]; simpa using this
        have hb8 : Below X.heap.size X w8 := by rw [hw8]; exact below_alloc (below_alloc (below_alloc (Below.refl _ _) _) _) _
        have hs8 : X.heap.size + 3 = w8.heap.size := by rw [hw8]; simp
        have hbX := XB.out.trans (hb8.mono XB.out.size)
        have HD := Lib.hid ((hb8.block D (Array.getElem?_eq_some_iff.1 HK.out).1).trans HK.out)
        have HDlt := (Array.getElem?_eq_some_iff.1 HK.out).1
        have hgives2 := walk1_gives HS.out hneg w2.heap.size (Nat.le_refl _) w8 hbX.size _ _ h root h kb ka (HIN.out w8 hbX) (HT.out.deep HS.out.less)
        rw [HLV.out] at hgives2
        have K15 := Lib.hid k15; have HBX := Lib.hid hbX; have HS8 := Lib.hid hs8; have HG2 := Lib.hid hgives2
        clear hw8 ka kb k15 hb8 hs8 hbX hgives2 y0 y7 y12 y80 y81
        go_wp2_with fail
        refine wp_range (encs := encR) (xs := L) (n₀ := w2.heap.size) rfl (Go.Proofs.enters_of Try.func46 (by kernel_rfl) rfl) HG2.out HBX.out.size (fun _ => rfl)
          (WInv most X.heap.size D w2) (fun cc k Y => cc = .exit 2 ∧ k = most + 1 ∧ WCore X.heap.size D w2 k Y) (winv_own most _ D w2 (by have := HS8.out; omega) (by have := HS8.out; omega) HBX.out.size)
          (fun cc k A B row hX hg hr => ⟨hX.1, hX.2.1, wcore_own _ D w2 (by have := HS8.out; omega) (by have := HS8.out; omega) HBX.out.size k A B row hX.2.2 hg hr⟩) ⟨by omega, by simpa using K15.out, HD.out, HBX.out⟩ ?round2 ?done2 ?stop2
        case round2 =>
          rintro l' k x Y hl' hx hI
          have hnL : L ≠ [] := by intro e; rw [e] at hx; simp at hx
          have hkL := (List.getElem?_eq_some_iff.1 hx).1
          have HI2 := Lib.hid hI; have HX2 := Lib.hid hx; have HNL := Lib.hid hnL
          clear hI hx hnL
          gi_wp2_with fail
          refine ⟨(Held.refl _ _ _).alloc _, own_below (winv_own most X.heap.size D w2 (B := w8.heap.size) (by have := HS8.out; omega) (by have := HS8.out; omega) HBX.out.size) HI2.out (below_alloc (Below.refl _ _) _), ?_⟩
          rintro Wb hblk hszb ⟨hkm, b15, bD, bB⟩
          have b16 := hblk _ _ _ (Blk.new Y 33 #[.int .u32 x.uid, .int .u8 x.fl, .string x.txt])
          obtain ⟨gL, oL, hA, hgL, hcL⟩ := HRECS.out Wb (below_on HB2.out bB) HNL.out
          obtain ⟨z0, z1, z2⟩ := hcL k x HX2.out
          have b0 := Q0.out.below bB hlt2'
          have b5 := Q1.out.below bB Q1.out.lt
          have hcell : ∀ W, Below Wb.heap.size Wb W → ∀ a v, Wb.cell? a = some v → W.cell? a = some v := fun W hW a v h => (hW.cell (World.block_lt_of_cell? Wb a h)).trans h
          have hge : decide (L.length ≤ k) = false := decide_eq_false (by omega)
          have hge' : decide ((L.length : Int) ≤ k) = false := decide_eq_false (by omega)
          have hi0 : (0 : Int) ≤ k := by omega
          have hi1 : (k : Int) < L.length := by omega
          have B15 := Lib.hid b15; have BD := Lib.hid bD; have BB := Lib.hid bB; have B16 := Lib.hid b16; have B0 := Lib.hid b0; have B5 := Lib.hid b5; have HC := Lib.hid hcell
          have Z0 := Lib.hid z0; have Z1 := Lib.hid z1; have Z2 := Lib.hid z2
          clear hblk b15 bD bB b16 b0 b5 hcell z0 z1 z2 hcL
          gi_wp2_with fail
          refine wpIn_region_quiet (fun W => Below Wb.heap.size Wb W) (Wide.round _) (by kernel_rfl) (by kernel_rfl) ⟨rfl, rfl, rfl, Nat.le_refl _, fun _ _ => rfl⟩ ?_
          refine wq_want (by rfl) (.int .i64 k) (fun W hW => run_ld3 (.tmp 15) rfl rfl (HC.out W hW _ _ (B15.out.cell 0))) ?_
          simp only [Act.put, List.setIfInBounds_toArray, List.set_cons_zero, List.set_cons_succ]
          refine wq_want (by rfl) (.slice A L.length c) (fun W hW => run_ld22 (.tmp 3) rfl rfl (HC.out W hW _ _ (B0.out.cell 0))) ?_
          simp only [Act.put, List.setIfInBounds_toArray, List.set_cons_zero, List.set_cons_succ]
          refine wq_want (by rfl) (.int .i64 L.length) (fun W hW => run_len22 (.tmp 101) rfl rfl) ?_
          simp only [Act.put, List.setIfInBounds_toArray, List.set_cons_zero, List.set_cons_succ]
          refine wq_want (by rfl) (.bool false) (fun W hW => by go_simp) ?_
          simp only [Act.put, List.setIfInBounds_toArray, List.set_cons_zero, List.set_cons_succ]
          refine wq_want (by rfl) (.bool false) (fun W hW => by go_simp) ?_
          simp only [Act.put, List.setIfInBounds_toArray, List.set_cons_zero, List.set_cons_succ]
          refine wq_want (by rfl) (.agg #[.int .u32 x.uid, .int .u8 x.fl, .string x.txt]) (fun W hW => run_ld3x (.inl rfl) (.tmp 16) rfl rfl (HC.out W hW _ _ (B16.out.cell 0)) (HC.out W hW _ _ (B16.out.cell 1)) (HC.out W hW _ _ (B16.out.cell 2))) ?_
          simp only [Act.put, List.setIfInBounds_toArray, List.set_cons_zero, List.set_cons_succ]
          refine wq_back (fun W W' hW hb => below_on hW hb) (.tmp 105) _ rfl (by rfl) rfl ?_
          simp only [Act.put, List.setIfInBounds_toArray, List.set_cons_zero, List.set_cons_succ]
          refine wq_want (by rfl) (.slice A L.length c) (fun W hW => run_ld22 (.tmp 3) rfl rfl (HC.out W hW _ _ (B0.out.cell 0))) ?_
          simp only [Act.put, List.setIfInBounds_toArray, List.set_cons_zero, List.set_cons_succ]
          refine wq_want (by rfl) (.int .i64 k) (fun W hW => run_ld3 (.tmp 15) rfl rfl (HC.out W hW _ _ (B15.out.cell 0))) ?_
          simp only [Act.put, List.setIfInBounds_toArray, List.set_cons_zero, List.set_cons_succ]
          subst hA
          refine wq_want (by rfl) (.pointer (some ⟨gL, oL + k * 3, none⟩)) (fun W hW => by go_simp) ?_
          simp only [Act.put, List.setIfInBounds_toArray, List.set_cons_zero, List.set_cons_succ]
          refine wq_want (by rfl) (.agg #[.int .u32 x.uid, .int .u8 x.fl, .string x.txt]) (fun W hW => run_ld3x (.inr rfl) (.tmp 109) rfl rfl (HC.out W hW _ _ Z0.out) (HC.out W hW _ _ Z1.out) (HC.out W hW _ _ Z2.out)) ?_
          simp only [Act.put, List.setIfInBounds_toArray, List.set_cons_zero, List.set_cons_succ]
          refine wq_want (by rfl) (.bool false) (fun W hW => by go_simp) ?_
          simp only [Act.put, List.setIfInBounds_toArray, List.set_cons_zero, List.set_cons_succ]
          refine wq_want (by rfl) (.bool false) (fun W hW => by go_simp) ?_
          simp only [Act.put, List.setIfInBounds_toArray, List.set_cons_zero, List.set_cons_succ]
          refine wpQuiet_nil ?_
          intro W3 hW3
          have b15' := B15.out.stay hW3
          have b5' := B5.out.stay hW3
          have y15 : W3.cell? ⟨X.heap.size, 0, none⟩ = some (.int .i64 k) := b15'.cell 0
          have f15 : W3.frozen? ⟨X.heap.size, 0, none⟩ = false := b15'.frozen 0
          have y5 : W3.cell? ⟨w.heap.size + 1, 0, none⟩ = some (.int .u8 most) := b5'.cell 0
          have hne5 : w.heap.size + 1 < X.heap.size := T1.out.lt
          have hD3 := (hW3.block D (Array.getElem?_eq_some_iff.1 BD.out).1).trans BD.out
          have HH3 := Lib.hid (Held.of_below (n := w2.heap.size) (B := w8.heap.size) hW3)
          have HB3' := Lib.hid (Below.trans BB.out (hW3.mono BB.out.size))
          have H15 := Lib.hid b15'; have HDD := Lib.hid hD3
          clear b15' b5' hW3 hD3
          by_cases hm : k + 1 ≤ most
          · have d3 : decide ((most : Int) < (k : Int) + 1) = false := decide_eq_false (by omega)
            gi_wp2_with fail
            refine ⟨HH3.out.set_ (by have := BB.out.size; have := XB.out.size; simp; omega) (by have := HS8.out; simp; omega) _, by omega, ?_, (KeepsOthers.setCell _ _ _).same D _ HDD.out rfl, HB3'.out.setCell (by have := XB.out.size; simp; omega) _⟩
            have h9 := H15.out.set_ 0 (.int .i64 ((k : Int) + 1))
            have e9 : ((k + 1 : Nat) : Int) = (k : Int) + 1 := by omega
            rw [e9]; exact h9
          · have d3 : decide ((most : Int) < (k : Int) + 1) = true := decide_eq_true (by omega)
            gi_wp2_with fail
            refine ⟨HH3.out.set_ (by have := BB.out.size; have := XB.out.size; simp; omega) (by have := HS8.out; simp; omega) _, rfl, by omega, ?_, (KeepsOthers.setCell _ _ _).same D _ HDD.out rfl, HB3'.out.setCell (by have := XB.out.size; simp; omega) _⟩
            have h9 := H15.out.set_ 0 (.int .i64 ((k : Int) + 1))
            have e9 : ((k + 1 : Nat) : Int) = (k : Int) + 1 := by omega
            rw [e9]; exact h9
        case done2 =>
          rintro D' Y hD' ⟨hkm, c15, cD, cB⟩ hK'
          have t0 := Q0.out.below cB hlt2'
          have t1 := Q1.out.below cB Q1.out.lt
          have t2 := Q2.out.below cB Q2.out.lt
          have y15 : Y.cell? ⟨X.heap.size, 0, none⟩ = some (.int .i64 (L.length : Nat)) := c15.cell 0
          have y0 : Y.cell? ⟨w.heap.size, 0, none⟩ = some (.slice A L.length c) := t0.cell 0
          have y5 : Y.cell? ⟨w.heap.size + 1, 0, none⟩ = some (.int .u8 most) := t1.cell 0
          have hself : decide ((L.length : Nat) = (L.length : Nat)) = true := by simp
          have T2 := Lib.hid t2; have CB := Lib.hid cB; have CD := Lib.hid cD; have HK' := Lib.hid hK'
          clear t0 t1 t2 c15 cB cD hK'
          go_wp2_with (first
            | (with_reducible refine pick (o := ⟨some 125, _, _, _, _, _⟩) ?_; refine wpList_min rfl (.tmp 121) (.tmp 124) rfl (L.length : Int) ((most : Int) + 1) rfl rfl ((L.length : Nat) : Int) (by omega) ?_)
            | (go_at_call 21; refine (awake_any _).mono ?_; rintro e w9 ⟨rfl, hb9⟩; have j2 := T2.out.stay hb9; have n2 : w9.cell? ⟨w.heap.size + 1 + 1, 0, none⟩ = some (.bool false) := j2.cell 0; have m2 : w9.frozen? ⟨w.heap.size + 1 + 1, 0, none⟩ = false := j2.frozen 0))
          have hK9 := (KeepsOthers.setCell w9 ⟨w.heap.size + 1 + 1, 0, none⟩ (.bool true)).same D' _ ((hb9.block D' (Array.getElem?_eq_some_iff.1 HK'.out).1).trans HK'.out) rfl
          have hD9 := (KeepsOthers.setCell w9 ⟨w.heap.size + 1 + 1, 0, none⟩ (.bool true)).same D _ ((hb9.block D (Array.getElem?_eq_some_iff.1 CD.out).1).trans CD.out) rfl
          have hZ2 := j2.set_ 0 (.bool true)
          have hZB : Below w.heap.size w (w9.setCell ⟨w.heap.size + 1 + 1, 0, none⟩ (.bool true)) := (below_on (below_on HB2.out CB.out) hb9).setCell (by simp; omega) _
          generalize w9.setCell ⟨w.heap.size + 1 + 1, 0, none⟩ (.bool true) = Z at hK9 hD9 hZ2 hZB ⊢
          have hDD : D ≠ D' := by have := HS8.out; omega
          have hD10 : (Z.putObj D' (.deferred none)).heap[D]? = some (.deferred (some [])) := (World.putObj_heap_other hDD).trans hD9
          have g2 : ((Z.putObj D' (.deferred none)).putObj D (.deferred none)).cell? ⟨w.heap.size + 1 + 1, 0, none⟩ = some (.bool true) := (blk_put hD10 rfl (blk_put hK9 rfl hZ2)).cell 0
          refine ⟨by simp, .inl ⟨_, _, rfl, run_takeDeferred hK9, by simp, .inl ⟨_, _, rfl, run_takeDeferred hD10, .bool true, by simp [results, Try.results5, go_sem, g2], rfl, ?_⟩⟩⟩
          have hsz9 := (Array.getElem?_eq_some_iff.1 hD10).1
          exact (hZB.grown (grownBy_putObj' Z D' _) hZB.size (fun j e => by cases e; have := HS8.out; omega)).grown (grownBy_putObj' _ D _) (by have := hZB.size; simp; omega) (fun j e => by cases e; have := HS7.out; have := HS6.out; have := l8; omega)
        case stop2 =>
          rintro D' cc k Y hD' hk ⟨rfl, hk2, c15, cD, cB⟩ hK'
          have t0 := Q0.out.below cB hlt2'
          have t1 := Q1.out.below cB Q1.out.lt
          have t2 := Q2.out.below cB Q2.out.lt
          have y15 : Y.cell? ⟨X.heap.size, 0, none⟩ = some (.int .i64 (k + 1 : Nat)) := c15.cell 0
          have y0 : Y.cell? ⟨w.heap.size, 0, none⟩ = some (.slice A L.length c) := t0.cell 0
          have y5 : Y.cell? ⟨w.heap.size + 1, 0, none⟩ = some (.int .u8 most) := t1.cell 0
          have hself : decide ((k + 1 : Nat) = (k + 1 : Nat)) = true := by simp
          have T2 := Lib.hid t2; have CB := Lib.hid cB; have CD := Lib.hid cD; have HK' := Lib.hid hK'
          clear t0 t1 t2 c15 cB cD hK'
          go_wp2_with (first
            | (with_reducible refine pick (o := ⟨some 125, _, _, _, _, _⟩) ?_; refine wpList_min rfl (.tmp 121) (.tmp 124) rfl (L.length : Int) ((most : Int) + 1) rfl rfl ((k + 1 : Nat) : Int) (by omega) ?_)
            | (go_at_call 21; refine (awake_any _).mono ?_; rintro e w9 ⟨rfl, hb9⟩; have j2 := T2.out.stay hb9; have n2 : w9.cell? ⟨w.heap.size + 1 + 1, 0, none⟩ = some (.bool false) := j2.cell 0; have m2 : w9.frozen? ⟨w.heap.size + 1 + 1, 0, none⟩ = false := j2.frozen 0))
          have hK9 := (KeepsOthers.setCell w9 ⟨w.heap.size + 1 + 1, 0, none⟩ (.bool true)).same D' _ ((hb9.block D' (Array.getElem?_eq_some_iff.1 HK'.out).1).trans HK'.out) rfl
          have hD9 := (KeepsOthers.setCell w9 ⟨w.heap.size + 1 + 1, 0, none⟩ (.bool true)).same D _ ((hb9.block D (Array.getElem?_eq_some_iff.1 CD.out).1).trans CD.out) rfl
          have hZ2 := j2.set_ 0 (.bool true)
          have hZB : Below w.heap.size w (w9.setCell ⟨w.heap.size + 1 + 1, 0, none⟩ (.bool true)) := (below_on (below_on HB2.out CB.out) hb9).setCell (by simp; omega) _
          generalize w9.setCell ⟨w.heap.size + 1 + 1, 0, none⟩ (.bool true) = Z at hK9 hD9 hZ2 hZB ⊢
          have hDD : D ≠ D' := by have := HS8.out; omega
          have hD10 : (Z.putObj D' (.deferred none)).heap[D]? = some (.deferred (some [])) := (World.putObj_heap_other hDD).trans hD9
          have g2 : ((Z.putObj D' (.deferred none)).putObj D (.deferred none)).cell? ⟨w.heap.size + 1 + 1, 0, none⟩ = some (.bool true) := (blk_put hD10 rfl (blk_put hK9 rfl hZ2)).cell 0
          refine ⟨by simp, .inl ⟨_, _, rfl, run_takeDeferred hK9, by simp, .inl ⟨_, _, rfl, run_takeDeferred hD10, .bool true, by simp [results, Try.results5, go_sem, g2], rfl, ?_⟩⟩⟩
          have hsz9 := (Array.getElem?_eq_some_iff.1 hD10).1
          exact (hZB.grown (grownBy_putObj' Z D' _) hZB.size (fun j e => by cases e; have := HS8.out; omega)).grown (grownBy_putObj' _ D _) (by have := hZB.size; simp; omega) (fun j e => by cases e; have := HS7.out; have := HS6.out; have := l8; omega)
      · have hL0 : L.length = 0 := by omega
        have e1 := HE2.out hL0
        have d1 : decide (0 < L.length) = false := decide_eq_false hL
        have d1' : decide ((0 : Int) < L.length) = false := decide_eq_false (by omega)
        have d2 : ((L.length : Int) == 0) = true := beq_iff_eq.2 (by omega)
        rw [e1] at y12
        go_wp2_with fail
        refine (walkF_any root h 26 (.slice V sh.length vc) _).mono ?_
        rintro e w8 ⟨rfl, hw8⟩
        simp only [World.size_alloc]
        have k15 : Blk w8 X.heap.size 3 #[.int .i64 0] := by rw [hw8]; exact ((Blk.new X 3 #[.int .i64 0]).alloc _).alloc _
        have ka : Blk w8 (X.heap.size + 1) 28 #[.int .i64 root, .int .i64 h] := by rw [hw8]; have := (Blk.new (X.alloc (.cells #[.int .i64 0] 3)) 28 #[.int .i64 root, .int .i64 h]).alloc (.cells #[.iface 26 (.slice V sh.length vc)] 104); simpa using this
        have kb : Blk w8 (X.heap.size + 1 + 1) 104 #[.iface 26 (.slice V sh.length vc)] := by rw [hw8]; have := Blk.new ((X.alloc (.cells #[.int .i64 0] 3)).alloc (.cells #[.int .i64 root, .int .i64 h] 28)) 104 #[.iface 26 (.slice V sh.length vc)]; simpa using this
        have hb8 : Below X.heap.size X w8 := by rw [hw8]; exact below_alloc (below_alloc (below_alloc (Below.refl _ _) _) _) _
        have hs8 : X.heap.size + 3 = w8.heap.size := by rw [hw8]; simp
        have hbX := XB.out.trans (hb8.mono XB.out.size)
        have HD := Lib.hid ((hb8.block D (Array.getElem?_eq_some_iff.1 HK.out).1).trans HK.out)
        have HDlt := (Array.getElem?_eq_some_iff.1 HK.out).1
        have hgives2 := walk1_gives HS.out hneg w2.heap.size (Nat.le_refl _) w8 hbX.size _ _ h root h kb ka (HIN.out w8 hbX) (HT.out.deep HS.out.less)
        rw [HLV.out] at hgives2
        have K15 := Lib.hid k15; have HBX := Lib.hid hbX; have HS8 := Lib.hid hs8; have HG2 := Lib.hid hgives2
        clear hw8 ka kb k15 hb8 hs8 hbX hgives2 y0 y7 y12 y80 y81
        go_wp2_with fail
        refine wp_range (encs := encR) (xs := L) (n₀ := w2.heap.size) rfl (Go.Proofs.enters_of Try.func46 (by kernel_rfl) rfl) HG2.out HBX.out.size (fun _ => rfl)
          (WInv most X.heap.size D w2) (fun cc k Y => cc = .exit 2 ∧ k = most + 1 ∧ WCore X.heap.size D w2 k Y) (winv_own most _ D w2 (by have := HS8.out; omega) (by have := HS8.out; omega) HBX.out.size)
          (fun cc k A B row hX hg hr => ⟨hX.1, hX.2.1, wcore_own _ D w2 (by have := HS8.out; omega) (by have := HS8.out; omega) HBX.out.size k A B row hX.2.2 hg hr⟩) ⟨by omega, by simpa using K15.out, HD.out, HBX.out⟩ ?round2 ?done2 ?stop2
        case round2 =>
          rintro l' k x Y hl' hx hI
          exact absurd (List.getElem?_eq_some_iff.1 hx).1 (by omega)
        case done2 =>
          rintro D' Y hD' ⟨hkm, c15, cD, cB⟩ hK'
          have t0 := Q0.out.below cB hlt2'
          have t1 := Q1.out.below cB Q1.out.lt
          have t2 := Q2.out.below cB Q2.out.lt
          have y15 : Y.cell? ⟨X.heap.size, 0, none⟩ = some (.int .i64 (L.length : Nat)) := c15.cell 0
          have y0 : Y.cell? ⟨w.heap.size, 0, none⟩ = some (.slice A L.length c) := t0.cell 0
          have y5 : Y.cell? ⟨w.heap.size + 1, 0, none⟩ = some (.int .u8 most) := t1.cell 0
          have hself : decide ((L.length : Nat) = (L.length : Nat)) = true := by simp
          have T2 := Lib.hid t2; have CB := Lib.hid cB; have CD := Lib.hid cD; have HK' := Lib.hid hK'
          clear t0 t1 t2 c15 cB cD hK'
          go_wp2_with (first
            | (with_reducible refine pick (o := ⟨some 125, _, _, _, _, _⟩) ?_; refine wpList_min rfl (.tmp 121) (.tmp 124) rfl (L.length : Int) ((most : Int) + 1) rfl rfl ((L.length : Nat) : Int) (by omega) ?_)
            | (go_at_call 21; refine (awake_any _).mono ?_; rintro e w9 ⟨rfl, hb9⟩; have j2 := T2.out.stay hb9; have n2 : w9.cell? ⟨w.heap.size + 1 + 1, 0, none⟩ = some (.bool false) := j2.cell 0; have m2 : w9.frozen? ⟨w.heap.size + 1 + 1, 0, none⟩ = false := j2.frozen 0))
          have hK9 := (KeepsOthers.setCell w9 ⟨w.heap.size + 1 + 1, 0, none⟩ (.bool true)).same D' _ ((hb9.block D' (Array.getElem?_eq_some_iff.1 HK'.out).1).trans HK'.out) rfl
          have hD9 := (KeepsOthers.setCell w9 ⟨w.heap.size + 1 + 1, 0, none⟩ (.bool true)).same D _ ((hb9.block D (Array.getElem?_eq_some_iff.1 CD.out).1).trans CD.out) rfl
          have hZ2 := j2.set_ 0 (.bool true)
          have hZB : Below w.heap.size w (w9.setCell ⟨w.heap.size + 1 + 1, 0, none⟩ (.bool true)) := (below_on (below_on HB2.out CB.out) hb9).setCell (by simp; omega) _
          generalize w9.setCell ⟨w.heap.size + 1 + 1, 0, none⟩ (.bool true) = Z at hK9 hD9 hZ2 hZB ⊢
          have hDD : D ≠ D' := by have := HS8.out; omega
          have hD10 : (Z.putObj D' (.deferred none)).heap[D]? = some (.deferred (some [])) := (World.putObj_heap_other hDD).trans hD9
          have g2 : ((Z.putObj D' (.deferred none)).putObj D (.deferred none)).cell? ⟨w.heap.size + 1 + 1, 0, none⟩ = some (.bool true) := (blk_put hD10 rfl (blk_put hK9 rfl hZ2)).cell 0
          refine ⟨by simp, .inl ⟨_, _, rfl, run_takeDeferred hK9, by simp, .inl ⟨_, _, rfl, run_takeDeferred hD10, .bool true, by simp [results, Try.results5, go_sem, g2], rfl, ?_⟩⟩⟩
          have hsz9 := (Array.getElem?_eq_some_iff.1 hD10).1
          exact (hZB.grown (grownBy_putObj' Z D' _) hZB.size (fun j e => by cases e; have := HS8.out; omega)).grown (grownBy_putObj' _ D _) (by have := hZB.size; simp; omega) (fun j e => by cases e; have := HS7.out; have := HS6.out; have := l8; omega)
        case stop2 =>
          rintro D' cc k Y hD' hk ⟨rfl, hk2, c15, cD, cB⟩ hK'
          exact absurd hk (by omega)
    case stop =>
      rintro D c k X hD hk hX hK
      exact hX.elim
end Go.Proofs.Ytnekbbmhjbjicaa

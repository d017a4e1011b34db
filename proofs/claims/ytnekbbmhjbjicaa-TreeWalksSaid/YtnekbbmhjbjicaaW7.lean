/- All: the messages of a walk, collected. -/
import Derived.Test.YtnekbbmhjbjicaaW7a
namespace Go.Proofs.Ytnekbbmhjbjicaa
open Go.RowKit
attribute [local go_sem] Oper.semAt_some

theorem not_nil62 (f : Nat) (b : Array Value) (W : World) : (binOp .eql 62 (.func (.func f) #[] b) .nilFunc).run Try.prog W = .ok (.bool false) W := by kernel_rfl
theorem not_nil53 (f : Nat) (b : Array Value) (W : World) : (binOp .eql 53 (.func (.func f) #[] b) .nilFunc).run Try.prog W = .ok (.bool false) W := by kernel_rfl

/-- what stands in All between two rounds -/
def AllInv (L : List Rc) (most : Nat) (w : World) (k : Nat) (X : World) : Prop :=
  ∃ V c, Blk X (w.heap.size + 1 + 1 + 1 + 1 + 1 + 1) 22 #[.slice V k c] ∧ X.ownsRow (w.heap.size + 7) 37 3 (.slice V k c) k (rcCells (L.take k)) ∧
    Blk X (w.heap.size + 1) 3 #[.int .i64 most] ∧ Blk X (w.heap.size + 1 + 1) 22 #[.slice none 0 0] ∧ Blk X (w.heap.size + 1 + 1 + 1) 4 #[.bool false] ∧ Below w.heap.size w X

theorem own_row_ne {X : World} {base e size n c : Nat} {V : Option Addr} {xs : List Value} {B : Nat} {row : Option Nat} (h : X.ownsRow base e size (.slice V n c) n xs) (hr : ∀ r, row = some r → B ≤ r ∧ ∃ o : Obj, X.heap[r]? = some o ∧ o.isCells = false) : ob V = none ∨ ob V ≠ row := by
  rcases h.2 with ⟨e1, _⟩ | ⟨g, cap, cur, e1, _, hcur, _⟩
  · injection e1 with e1; subst e1; exact .inl rfl
  · injection e1 with e1; subst e1
    right
    intro e
    obtain ⟨_, o, ho, hc⟩ := hr g e.symm
    rw [hcur] at ho
    injection ho with ho
    subst ho
    cases hc

theorem allInv_own (L : List Rc) (most : Nat) (w : World) {B : Nat} (hB : w.heap.size + 7 ≤ B) : OwnFrom B (AllInv L most w) := by
  rintro k X Y row ⟨V, c, h1, h2, h3, h4, h5, h6⟩ hg hr
  refine ⟨V, c, own_blk (β := Unit) (B := B) (by omega) _ _ () X Y row h1 hg hr, own_kept h2 hg ?_, own_blk (β := Unit) (B := B) (by omega) _ _ () X Y row h3 hg hr, own_blk (β := Unit) (B := B) (by omega) _ _ () X Y row h4 hg hr,
    own_blk (β := Unit) (B := B) (by omega) _ _ () X Y row h5 hg hr, h6.grown hg h6.size (fun j e => by have := (hr j e).1; omega)⟩
  exact own_row_ne h2 hr

theorem held_app {X w' : World} {n B base size k c : Nat} {V : Option Addr} {xs : List Value} (h : X.ownsRow base 37 size (.slice V k c) k xs) (hn : n ≤ base) (hg : X.grownBy w' (ob V)) : Held n B X w' := by
  rcases h.2 with ⟨e, _⟩ | ⟨g, cap, cur, e, hb, hcur, _⟩
  · injection e with e; subst e; exact .of_below (below_grown hg)
  · injection e with e; subst e
    exact (Held.refl _ _ _).grown (g := g) hg (by omega) (.inr ⟨cur, (0, 0), hcur⟩)
theorem blk_app {X w' : World} {base size k c g : Nat} {V : Option Addr} {xs : List Value} {t : TypeId} {cs : Array Value} (h : X.ownsRow base 37 size (.slice V k c) k xs) (hg : X.grownBy w' (ob V)) (hb : Blk X g t cs) (ht : t ≠ 37) : Blk w' g t cs :=
  (hg.block g hb.lt (fun e => own_ne h hb (fun e => ht e.symm) e.symm)).trans hb
theorem take_rc {L : List Rc} {k : Nat} {x : Rc} (h : L[k]? = some x) : rcCells (L.take (k + 1)) = rcCells (L.take k) ++ x.cells := by
  unfold rcCells
  rw [List.take_add_one, h, List.flatMap_append]
  simp

set_option maxRecDepth 100000 in
set_option maxHeartbeats 4000000 in
theorem all_any {d : TypeId} {v : Value} {st : St} {B : Nat} {Inv : World → Prop} (hs : IsStore (.iface d v) st B Inv) (hneg : ∀ s, s < 0 → st s = none) (r : Nat) (root h : Int) (most : Nat) (w : World) (hi : Inv w) (hd : Deep st r root)
    (hmost : (leaves (wl st r root)).length ≤ most) (hlen : most ≤ 1000) :
    Calls Try.prog 22 #[.iface d v, .agg #[.int .i64 root, .int .i64 h], .int .i64 most] w fun e w' => ∃ V c, e = .returned (.tuple #[.slice V (leaves (wl st r root)).length c, .bool true]) ∧
      RecsAt w' w'.heap.size V (leaves (wl st r root)) ∧ Below w.heap.size w w' := by
  obtain ⟨L, hL⟩ : ∃ L, leaves (wl st r root) = L := ⟨_, rfl⟩
  rw [hL] at hmost ⊢
  have HL := Lib.hid hL; have HI := Lib.hid hi; have HS := Lib.hid hs; have HM := Lib.hid hmost
  have hBle := hs.le w hi
  clear hL hi hmost
  refine of_callsIn (n := 0) (callsIn_of_wp_marks Try.func22 rfl trivial (wpIn_wide.2 ?_))
  simp only [Try.ntmps22, List.size_toArray, List.length_cons, List.length_nil, Nat.reduceAdd, Nat.reduceSub, Array.replicate_succ, Array.replicate_zero, List.push_toArray, List.append_toArray, List.nil_append, List.cons_append]
  have hnil := not_nil62
  go_wp2_with (go_at_call 25; refine (walkF_any root h d v _).mono ?_; rintro e w' ⟨rfl, rfl⟩)
  obtain ⟨W2, hW2⟩ : ∃ W2, ((((((w.alloc (.cells #[.int .i64 root, .int .i64 h] 28)).alloc (.cells #[.int .i64 most] 3)).alloc (.cells #[.slice none 0 0] 22)).alloc (.cells #[.bool false] 4)).alloc (.cells #[.int .i64 root, .int .i64 h] 28)).alloc (.cells #[.iface d v] 104)).alloc (.cells #[.slice none 0 0] 22) = W2 := ⟨_, rfl⟩
  have hsz : W2.heap.size = w.heap.size + 7 := by rw [← hW2]; simp
  have hb2 : Below w.heap.size w W2 := by rw [← hW2]; exact below_alloc (below_alloc (below_alloc (below_alloc (below_alloc (below_alloc (below_alloc (Below.refl _ _) _) _) _) _) _) _) _
  have q6 : Blk W2 (w.heap.size + 1 + 1 + 1 + 1 + 1 + 1) 22 #[.slice none 0 0] := by
    rw [← hW2]; have := Blk.new ((((((w.alloc (.cells #[.int .i64 root, .int .i64 h] 28)).alloc (.cells #[.int .i64 most] 3)).alloc (.cells #[.slice none 0 0] 22)).alloc (.cells #[.bool false] 4)).alloc (.cells #[.int .i64 root, .int .i64 h] 28)).alloc (.cells #[.iface d v] 104)) 22 #[.slice none 0 0]; simpa using this
  have q5 : Blk W2 (w.heap.size + 1 + 1 + 1 + 1 + 1) 104 #[.iface d v] := by
    rw [← hW2]; have := (Blk.new (((((w.alloc (.cells #[.int .i64 root, .int .i64 h] 28)).alloc (.cells #[.int .i64 most] 3)).alloc (.cells #[.slice none 0 0] 22)).alloc (.cells #[.bool false] 4)).alloc (.cells #[.int .i64 root, .int .i64 h] 28)) 104 #[.iface d v]).alloc (.cells #[.slice none 0 0] 22); simpa using this
  have q4 : Blk W2 (w.heap.size + 1 + 1 + 1 + 1) 28 #[.int .i64 root, .int .i64 h] := by
    rw [← hW2]; have := ((Blk.new ((((w.alloc (.cells #[.int .i64 root, .int .i64 h] 28)).alloc (.cells #[.int .i64 most] 3)).alloc (.cells #[.slice none 0 0] 22)).alloc (.cells #[.bool false] 4)) 28 #[.int .i64 root, .int .i64 h]).alloc (.cells #[.iface d v] 104)).alloc (.cells #[.slice none 0 0] 22); simpa using this
  have q3 : Blk W2 (w.heap.size + 1 + 1 + 1) 4 #[.bool false] := by
    rw [← hW2]; have := (((Blk.new (((w.alloc (.cells #[.int .i64 root, .int .i64 h] 28)).alloc (.cells #[.int .i64 most] 3)).alloc (.cells #[.slice none 0 0] 22)) 4 #[.bool false]).alloc (.cells #[.int .i64 root, .int .i64 h] 28)).alloc (.cells #[.iface d v] 104)).alloc (.cells #[.slice none 0 0] 22); simpa using this
  have q2 : Blk W2 (w.heap.size + 1 + 1) 22 #[.slice none 0 0] := by
    rw [← hW2]; have := ((((Blk.new ((w.alloc (.cells #[.int .i64 root, .int .i64 h] 28)).alloc (.cells #[.int .i64 most] 3)) 22 #[.slice none 0 0]).alloc (.cells #[.bool false] 4)).alloc (.cells #[.int .i64 root, .int .i64 h] 28)).alloc (.cells #[.iface d v] 104)).alloc (.cells #[.slice none 0 0] 22); simpa using this
  have q1 : Blk W2 (w.heap.size + 1) 3 #[.int .i64 most] := by
    rw [← hW2]; have := (((((Blk.new (w.alloc (.cells #[.int .i64 root, .int .i64 h] 28)) 3 #[.int .i64 most]).alloc (.cells #[.slice none 0 0] 22)).alloc (.cells #[.bool false] 4)).alloc (.cells #[.int .i64 root, .int .i64 h] 28)).alloc (.cells #[.iface d v] 104)).alloc (.cells #[.slice none 0 0] 22); simpa using this
  have hgives := walk1_gives HS.out hneg w.heap.size hBle W2 (by omega) _ _ r root h q5 q4 (hs.keep _ _ HI.out hb2) hd
  rw [HL.out] at hgives
  rw [hW2]
  clear hW2 hnil
  refine wp_range (encs := encR) (xs := L) (n₀ := w.heap.size) rfl (Go.Proofs.enters_of Try.func46 (by kernel_rfl) rfl) hgives (by omega) (fun _ => rfl)
    (AllInv L most w) (fun _ _ _ => False) (allInv_own L most w (by omega)) (fun _ _ _ _ _ hX _ _ => hX)
    ⟨none, 0, q6, ⟨by simp [rcCells], .inl ⟨rfl, rfl⟩⟩, q1, q2, q3, hb2⟩ ?round ?done ?stop
  case round =>
    rintro l' k x X hl' hx hA
    have HA := Lib.hid hA; have HX := Lib.hid hx
    clear hA hx q1 q2 q3 q4 q5 q6 hgives
    gi_wp2_with fail
    have hlt := (List.getElem?_eq_some_iff.1 HX.out).1
    have hmost := HM.out
    refine ⟨(Held.refl _ _ _).alloc _, own_below (allInv_own L most w (Nat.le_refl _)) HA.out (below_alloc (Below.refl _ _) _), ?_⟩
    rintro Wb hblk hszb ⟨V, c, p6, pown, p1, p2, p3, pb⟩
    have pr := hblk _ _ _ (Blk.new X 33 #[.int .u32 x.uid, .int .u8 x.fl, .string x.txt])
    have P6 := Lib.hid p6; have PO := Lib.hid pown; have P1 := Lib.hid p1; have P2 := Lib.hid p2; have P3 := Lib.hid p3; have PB := Lib.hid pb; have PR := Lib.hid pr
    have c6 : Wb.cell? ⟨w.heap.size + 1 + 1 + 1 + 1 + 1 + 1, 0, none⟩ = some (.slice V k c) := p6.cell 0
    have c1 : Wb.cell? ⟨w.heap.size + 1, 0, none⟩ = some (.int .i64 most) := p1.cell 0
    have hdk : decide (most < k) = false := by simp; omega
    have HLT := Lib.hid hlt
    clear hblk p6 pown p1 p2 p3 pb pr hlt hmost
    gi_wp2_with fail
    refine wpIn_collect (l := [_, _, _, _, _, _]) (Wide.round l') rfl ?_ ?_ ?_ ?_ ?_ ?_ ?_ ?_ ?_ ?_ ?_ ?_ ?_ ?_ ?_ ?_ ?_ ?_ ?_ ?_ ?_ ?_ ?_ ?_ ?_ ?_ ?_ ?_ ?_ ?_ ?_ P6.out PR.out PO.out (by have := HLT.out; have := HM.out; omega) ?_ ?_
    · rfl
    · rfl
    · rfl
    · rfl
    · rfl
    · rfl
    · rfl
    · rfl
    · rfl
    · rfl
    · rfl
    · rfl
    · rfl
    · rfl
    · rfl
    · rfl
    · rfl
    · rfl
    · kernel_rfl
    · kernel_rfl
    · kernel_rfl
    · kernel_rfl
    · kernel_rfl
    · kernel_rfl
    · kernel_rfl
    · kernel_rfl
    · kernel_rfl
    · kernel_rfl
    · rfl
    · rfl
    · rfl
    · have := P6.out.lt; omega
    intro V' c' w' a' hown hg hb9 hob
    gi_wp2_with fail
    have hPB := PB.out
    have hne : ob V' ≠ some (w.heap.size + 1 + 1 + 1 + 1 + 1 + 1) := own_ne hown hb9 (by decide)
    refine ⟨(held_app PO.out (by omega) hg).set_ (by simp; omega) (by simp; omega) _, V', c', hb9.set_ 0 _, ?_, (blk_app PO.out hg P1.out (by decide)).far (by simp) _, (blk_app PO.out hg P2.out (by decide)).far (by simp) _,
      (blk_app PO.out hg P3.out (by decide)).far (by simp) _, ?_⟩
    · rw [take_rc HX.out]
      exact own_kept hown (grownBy_setCell' w' _ _) (.inr hne)
    · refine Below.setCell (Below.trans hPB (below_of_grown hg hPB.size (fun g e => ?_))) (by simp; omega) _
      exact Nat.le_trans (by omega) (own_ob PO.out g e).1
  case done =>
    rintro D X hD ⟨V, c, p6, pown, p1, p2, p3, pb⟩ hK
    have P6 := Lib.hid p6; have PO := Lib.hid pown; have P2 := Lib.hid p2; have P3 := Lib.hid p3; have PB := Lib.hid pb
    have c6 : X.cell? ⟨w.heap.size + 1 + 1 + 1 + 1 + 1 + 1, 0, none⟩ = some (.slice V L.length c) := p6.cell 0
    have c2 : X.cell? ⟨w.heap.size + 1 + 1, 0, none⟩ = some (.slice none 0 0) := p2.cell 0
    have c3 : X.cell? ⟨w.heap.size + 1 + 1 + 1, 0, none⟩ = some (.bool false) := p3.cell 0
    have f2 : X.frozen? ⟨w.heap.size + 1 + 1, 0, none⟩ = false := p2.frozen 0
    have f3 : X.frozen? ⟨w.heap.size + 1 + 1 + 1, 0, none⟩ = false := p3.frozen 0
    have HK := Lib.hid hK
    clear p6 pown p1 p2 p3 pb hK q1 q2 q3 q4 q5 q6 hgives
    go_wp2_with fail
    have h2 : Blk ((X.setCell ⟨w.heap.size + 1 + 1, 0, none⟩ (.slice V L.length c)).setCell ⟨w.heap.size + 1 + 1 + 1, 0, none⟩ (.bool true)) (w.heap.size + 1 + 1) 22 #[.slice V L.length c] := (P2.out.set_ 0 _).far (by simp) _
    have h3 : Blk ((X.setCell ⟨w.heap.size + 1 + 1, 0, none⟩ (.slice V L.length c)).setCell ⟨w.heap.size + 1 + 1 + 1, 0, none⟩ (.bool true)) (w.heap.size + 1 + 1 + 1) 4 #[.bool true] := (P3.out.far (by simp) _).set_ 0 _
    have hK' : ((X.setCell ⟨w.heap.size + 1 + 1, 0, none⟩ (.slice V L.length c)).setCell ⟨w.heap.size + 1 + 1 + 1, 0, none⟩ (.bool true)).heap[D]? = some (.deferred (some [])) :=
      (KeepsOthers.setCell _ _ _).same D _ ((KeepsOthers.setCell _ _ _).same D _ HK.out rfl) rfl
    have hB : Below w.heap.size w ((X.setCell ⟨w.heap.size + 1 + 1, 0, none⟩ (.slice V L.length c)).setCell ⟨w.heap.size + 1 + 1 + 1, 0, none⟩ (.bool true)) := (PB.out.setCell (by simp; omega) _).setCell (by simp; omega) _
    have hO : ((X.setCell ⟨w.heap.size + 1 + 1, 0, none⟩ (.slice V L.length c)).setCell ⟨w.heap.size + 1 + 1 + 1, 0, none⟩ (.bool true)).ownsRow (w.heap.size + 7) 37 3 (.slice V L.length c) L.length (rcCells L) := by
      have h0 := PO.out
      rw [List.take_length] at h0
      have h1 := own_kept h0 (grownBy_setCell' X (w.heap.size + 1 + 1) (.slice V L.length c)) (.inr (own_ne h0 P2.out (by decide)))
      exact own_kept h1 (grownBy_setCell' _ (w.heap.size + 1 + 1 + 1) (.bool true)) (.inr (own_ne h1 (P3.out.far (by simp) _) (by decide)))
    generalize (X.setCell ⟨w.heap.size + 1 + 1, 0, none⟩ (.slice V L.length c)).setCell ⟨w.heap.size + 1 + 1 + 1, 0, none⟩ (.bool true) = Y at h2 h3 hK' hB hO ⊢
    have g2 : (Y.putObj D (.deferred none)).cell? ⟨w.heap.size + 1 + 1, 0, none⟩ = some (.slice V L.length c) := (blk_put hK' rfl h2).cell 0
    have g3 : (Y.putObj D (.deferred none)).cell? ⟨w.heap.size + 1 + 1 + 1, 0, none⟩ = some (.bool true) := (blk_put hK' rfl h3).cell 0
    refine ⟨by simp, .inl ⟨_, _, rfl, run_takeDeferred hK', .tuple #[.slice V L.length c, .bool true], by simp [results, Try.results22, go_sem, g2, g3], V, c, rfl, ?_, ?_⟩⟩
    · exact recs_of_own (own_kept hO (grownBy_putObj' Y D _) (own_row_ne (B := 0) hO (fun r e => by cases e; exact ⟨Nat.zero_le _, _, hK', rfl⟩)))
    · exact hB.grown (grownBy_putObj' Y D _) hB.size (fun j e => by cases e; omega)
  case stop =>
    rintro D c k X hD hk hX hK
    exact hX.elim
end Go.Proofs.Ytnekbbmhjbjicaa

/- The statements' Stand: messages laid into a store. -/
import Derived.Test.YtnekbbmhjbjicaaA10
namespace Go.Proofs.Ytnekbbmhjbjicaa
open Go.RowKit

theorem flat_get {α : Type} (f : α → List Value) (size : Nat) (hs : ∀ x, (f x).length = size) : ∀ (l : List α) (k : Nat) (x : α), l[k]? = some x → ∀ j, j < size → (l.flatMap f)[k * size + j]? = (f x)[j]?
  | [], k, x, h => by simp at h
  | a :: l, 0, x, h => by
    intro j hj
    simp at h; subst h
    rw [List.flatMap_cons, Nat.zero_mul, Nat.zero_add, List.getElem?_append_left (by rw [hs]; exact hj)]
  | a :: l, k + 1, x, h => by
    intro j hj
    have := flat_get f size hs l k x (by simpa using h) j hj
    rw [List.flatMap_cons, List.getElem?_append_right (by rw [hs, Nat.succ_mul]; omega), hs, ← this]
    congr 1
    rw [Nat.succ_mul]; omega

theorem take_get {α : Type} {l : List α} {n j : Nat} {x : α} (h : (l.take n)[j]? = some x) : l[j]? = some x := by
  rw [List.getElem?_take] at h
  split at h
  · exact h
  · cases h

/-- the node of the reference, as the program's, its slots moved -/
def conv (gap : Nat) (r : Rn) : Nd := if r.leaf then Nd.leaf r.rc else ⟨1, r.count, fun k => if 0 ≤ r.kids k then r.kids k + gap else r.kids k, Rc.zero⟩

def ndCells (l : List Nd) : List Value := l.flatMap (fun n => n.cells.toList)
theorem ndCells_append (a b : List Nd) : ndCells (a ++ b) = ndCells a ++ ndCells b := List.flatMap_append
theorem ndCells_length (l : List Nd) : (ndCells l).length = l.length * 26 := by
  induction l with
  | nil => rfl
  | cons a l ih => unfold ndCells at *; rw [List.flatMap_cons, List.length_append, ih]; simp [Nd.cells]; omega

/-- how high the tree stands -/
def standH (L : List Rc) (more : Nat) : Nat := min 8 (height L + more)
/-- the store -/
def standS (L : List Rc) (gap more : Nat) : List Nd := List.replicate gap Nd.zero ++ (bl (standH L more) L 0).map (conv gap)

theorem own_ne {w : World} {base e e' size n g : Nat} {V : Option Addr} {c : Nat} {xs : List Value} {cur : Array Value} {fr : Nat × Nat} (h : w.ownsRow base e size (.slice V n c) n xs) (hg : w.heap[g]? = some (.cells cur e' fr)) (hne : e ≠ e') : ob V ≠ some g := by
  intro hob
  rcases h.2 with ⟨h1, h2⟩ | ⟨g', cap, cur', hv, hb, hh, _⟩
  · injection h1 with h1; subst h1; cases hob
  · injection hv with h1; subst h1
    injection hob with hob
    have : g' = g := hob
    subst this
    rw [hg] at hh
    injection hh with hh
    injection hh with _ hh
    exact hne hh.symm

/-- a row of nodes of the call's own, as a store -/
theorem shelf_of_own {w : World} {base : Nat} {V : Option Addr} {c : Nat} {sh : List Nd} (h : w.ownsRow base 60 26 (.slice V sh.length c) sh.length (ndCells sh)) : ShelfAt w w.heap.size V sh := by
  intro hne
  obtain ⟨g, rfl, hb, hlt, cur, hh, hnc, hcm, hcs, htk⟩ := own_some h (List.length_pos_iff.2 hne)
  refine ⟨g, 0, rfl, hlt, fun k n hk j c hj => ?_⟩
  have hj26 : j < 26 := (Array.getElem?_eq_some_iff.1 hj).1
  rw [Nat.zero_add, cell_of_row w g _ cur 60 (0, 0) hh]
  have h1 := flat_get (fun n : Nd => n.cells.toList) 26 (fun _ => rfl) sh k n hk j hj26
  have h2 : (ndCells sh)[k * 26 + j]? = some c := by unfold ndCells; rw [h1]; simpa using hj
  rw [← htk] at h2
  simpa using take_get h2

section
variable {ops : Array Oper} {rest : List Oper} {o : Oper} {a : Act} {w : World} {Q : Exit → Act → World → Prop}
/-- at this operation, and at no other -/
theorem pick (h : wpList Try.prog ops Q (o :: rest) a w) : wpList Try.prog ops Q (o :: rest) a w := h
/-- min of two ints -/
theorem wpList_min (hg : o.guard = none) (x y : Operand) (ho : o.op = .call { callee := .builtin .min, args := #[x, y], argTypes := #[3, 3] }) (p q : Int) (hx : a.eval x = .int .i64 p) (hy : a.eval y = .int .i64 q)
    (r : Int) (hr : r = min p q) (h : wpList Try.prog ops Q rest (a.put o.dst (.int .i64 r)) w) : wpList Try.prog ops Q (o :: rest) a w :=
  wpList_plain hg fun _ hK => by
    have e : (if q < p then q else p) = r := by rw [hr]; split <;> omega
    unfold Oper.wp execOp
    simp only [ho, resolve, invoke, builtin, Sem.run_bind, Sem.run_pure, Result.andThen_ok, List.map_toArray, List.map_cons, List.map_nil, hx, hy, run_min_int2, e]
    exact hK _ _ h
end

/-- the node behind k rounds -/
def convAt (gap : Nat) (r : Rn) (k : Nat) : Nd := ⟨1, r.count, fun j => if j < k then (if 0 ≤ r.kids j then r.kids j + gap else r.kids j) else 0, Rc.zero⟩
theorem convAt_succ (gap : Nat) (r : Rn) (k : Nat) : (convAt gap r k).setKid k (if 0 ≤ r.kids k then r.kids k + gap else r.kids k) = convAt gap r (k + 1) := by
  unfold convAt Nd.setKid
  congr 1
  funext j
  by_cases h1 : j = k
  · subst h1; simp
  · by_cases h2 : j < k
    · simp [h1, h2, Nat.lt_succ_of_lt h2]
    · have : ¬ j < k + 1 := by omega
      simp [h1, h2, this]
theorem ndKid_twice (n : Nd) (d : Nat) (x y : Int) : (n.setKid d x).setKid d y = n.setKid d y := by
  unfold Nd.setKid
  congr 1
  funext k
  by_cases h1 : k = d <;> simp [h1]
theorem ndKid_self (n : Nd) (d : Nat) (x : Int) : (n.setKid d x).kids d = x := by simp [Nd.setKid]
theorem convAt_end (gap : Nat) (r : Rn) (h : r.leaf = false) : (convAt gap r 16).cells = (conv gap r).cells := by unfold conv; rw [h]; rfl

/-- slots stay small -/
def SmallR (R : List Rn) : Prop := ∀ r ∈ R, ∀ k, k < 16 → -1 ≤ r.kids k ∧ r.kids k ≤ 1000000

/-- the outcome of Stand -/
def StandPost (L : List Rc) (gap more : Nat) (w : World) (e : Ending) (w' : World) : Prop :=
  ∃ V c, e = .returned (.tuple #[.slice V (standS L gap more).length c, .agg #[.int .i64 gap, .int .i64 (standH L more)]]) ∧ ShelfAt w' w'.heap.size V (standS L gap more) ∧ Below w.heap.size w w'

set_option maxRecDepth 100000 in
set_option maxHeartbeats 8000000 in
theorem stand_yes (A : Option Addr) (c gap more : Nat) (L : List Rc) (w : World) (hne : L ≠ []) (hok : ∀ r ∈ L, r.uid < 4294967296) (hl : RecsAt w w.heap.size A L) (hlen : L.length ≤ 1000) (hgap : gap ≤ 1000) (hmore : more ≤ 1000)
    (hn : (bl (standH L more) L 0).length ≤ 10000) (hsm : SmallR (bl (standH L more) L 0)) :
    Calls Try.prog 11 #[.slice A L.length c, .int .i64 gap, .int .i64 more] w (StandPost L gap more w) := by
  have hpos : 0 < L.length := List.length_pos_iff.2 hne
  have hz : ((L.length : Int) == 0) = false := by simp; omega
  have hh8 : height L ≤ 8 := by
    unfold height
    cases hL : L.getLast? with
    | none => simp
    | some r => exact need_le_eight (hok r (List.mem_of_getLast? hL))
  obtain ⟨H, hH⟩ : ∃ H, H = standH L more := ⟨_, rfl⟩
  obtain ⟨R, hR⟩ : ∃ R, R = bl H L 0 := ⟨_, rfl⟩
  have hH8 : H ≤ 8 := by rw [hH]; unfold standH; omega
  have hl0 := hl.below (below_alloc (Below.refl w.heap.size w) (.cells #[.int .i64 0, .int .i64 0] 28))
  rw [← hH, ← hR] at hn hsm
  have hmin : (H : Int) = min 8 ((height L : Int) + more) := by rw [hH]; unfold standH; omega
  have hS : standS L gap more = List.replicate gap Nd.zero ++ R.map (conv gap) := by unfold standS; rw [← hH, ← hR]
  have HH := Lib.hid hH; have HR := Lib.hid hR; have HOK := Lib.hid hok; have HNE := Lib.hid hne; have HMIN := Lib.hid hmin; have HS := Lib.hid hS; have HSM := Lib.hid hsm
  have hb0 : Blk (w.alloc (.cells #[.int .i64 0, .int .i64 0] 28)) w.heap.size 28 #[.int .i64 0, .int .i64 0] := Blk.new _ _ _
  have HB0 := Lib.hid hb0
  clear hH hR hne hmin hS hsm hb0
  go_enter Try.func11, Try.ntmps11
  go_wp2_with (first
    | (go_at_call 31; refine (height_any A c w.heap.size L _ hl0 (by omega) HOK.out).mono ?_; rintro e w' ⟨rfl, rfl⟩)
    | (with_reducible refine pick (o := ⟨some 24, _, _, _, _, _⟩) ?_; refine wpList_min rfl _ _ rfl 8 _ rfl rfl H HMIN.out ?_))
  go_loopw [9, 10] (fun s x wr => ∃ (k vc : Nat) (V : Option Addr), k ≤ gap ∧ s = .slice V k vc ∧ x = .int .i64 k ∧ wr.ownsRow (w.heap.size + 1) 60 26 (.slice V k vc) k (ndCells (List.replicate k Nd.zero)) ∧ Below (w.heap.size + 1) (w.alloc (.cells #[.int .i64 0, .int .i64 0] 28)) wr)
    (fun _ x _ => (gap - intOf x).toNat)
  case atStart => exact ⟨0, 0, none, by omega, rfl, rfl, World.ownsRow_nil _ _ _ _, Below.refl _ _⟩
  case round =>
    obtain ⟨k, vc, V, hk, rfl, rfl, hown, hB⟩ := hrel
    have hob := own_ob hown
    have hsz : w.heap.size + 1 ≤ wr.heap.size := by have := hB.size; simpa using this
    have HOWN := Lib.hid hown; have HB := Lib.hid hB
    clear hown hB
    by_cases hlt : k < gap
    · go_wp2_with (first
        | (with_reducible refine pick (o := ⟨some 31, _, _, _, _, _⟩) ?_; refine wpList_value rfl (.agg Nd.zero.cells) (by kernel_rfl) ?_)
        | (with_reducible refine pick (o := ⟨some 32, _, _, _, _, _⟩) ?_; refine wpList_one60 (n := Nd.zero) rfl (.tmp 31) rfl rfl ?_)
        | (at_builtin; with_reducible refine pick (o := ⟨some 33, _, _, _, _, _⟩) ?_; refine wpList_app elem60 rfl (.tmp 30) (.tmp 32) rfl (w.heap.size + 1) V k vc _ rfl HOWN.out rfl rfl (Nd.cells_one _) (by omega) (by omega) hsz ?_; intro V1 c1 w1 hown1 hg1 hob1))
      go_roundw
      case rel => exact ⟨k + 1, c1, V1, by omega, rfl, by go_num, by rw [List.replicate_succ', ndCells_append]; exact hown1, HB.out.grown hg1 hsz (fun g hg => (hob g hg).1)⟩
      case measure => simp [intOf]; omega
    · obtain rfl : k = gap := by omega
      have hbA : Below w.heap.size w wr := (below_alloc (Below.refl w.heap.size w) (.cells #[.int .i64 0, .int .i64 0] 28)).trans (HB.out.mono (by omega))
      have hlr : RecsAt wr wr.heap.size A L := by
        have h1 := hl.below hbA
        intro he
        obtain ⟨g, o, h2, h3, h4⟩ := h1 he
        exact ⟨g, o, h2, by omega, h4⟩
      have hnone : ∀ g, ob A = some g → ob (none : Option Addr) ≠ some g := fun g _ e => by cases e
      have hcall := build_any H hH8 A none c 0 0 wr.heap.size L [] wr HNE.out HOK.out (World.ownsRow_nil _ _ _ _) (Nat.le_refl _) hlr hnone (by rw [← HR.out]; omega) hlen
      rw [← HR.out] at hcall
      have HC := Lib.hid hcall
      clear hcall hlr hnone hbA
      go_wp2_with fail
      refine HC.out.mono ?_
      rintro e w3 ⟨W3, c3, rfl, hown3, hg3, hob3⟩
      have e00 : ((0 : Nat) : Int) = 0 := rfl
      simp only [Nat.zero_add, List.nil_append, e00] at hown3 ⊢
      clear e00
      have hRpos : 0 < R.length := by
        rw [HR.out]
        cases H <;> simp [bl]
      obtain ⟨g3, rfl, hbg3, hlt3, cur, hh3, hnc3, hcm3, hcs3, htk3⟩ := own_some hown3 hRpos
      have hbR : Blk w3 g3 101 cur := hh3
      have hcell : ∀ i r, R[i]? = some r → ∀ j v, r.cells[j]? = some v → cur[i * 21 + j]? = some v := by
        intro i r hr j v hv
        have hj : j < 21 := (Array.getElem?_eq_some_iff.1 hv).1
        have h1 := flat_get (fun n : Rn => n.cells.toList) 21 (fun _ => rfl) R i r hr j hj
        have h2 : (rnCells R)[i * 21 + j]? = some v := by unfold rnCells; rw [h1]; simpa using hv
        rw [← htk3] at h2
        simpa using take_get h2
      have hB3 : Below wr.heap.size wr w3 := below_of_grown hg3 (Nat.le_refl _) (fun g hg => by cases hg)
      have hown4 := own_kept HOWN.out (grown_of_below hB3 none) (by cases ob V <;> simp)
      have HBR := Lib.hid hbR; have HCELL := Lib.hid hcell; have HO4 := Lib.hid hown4
      have hb3 : Below (w.heap.size + 1) (w.alloc (.cells #[.int .i64 0, .int .i64 0] 28)) w3 := HB.out.trans (hB3.mono hsz)
      have hsz3 : w.heap.size + 1 ≤ w3.heap.size := by have := hB3.size; omega
      have HB3 := Lib.hid hb3
      clear hown3 hg3 hob3 hh3 hnc3 hcm3 hcs3 htk3 hbR hcell hB3 hown4 hb3
      go_wp2_with fail
      go_loopw [9, 13] (fun s x wr => ∃ (i vc : Nat) (V : Option Addr), i ≤ R.length ∧ s = .slice V (k + i) vc ∧ x = .int .i64 i ∧
          wr.ownsRow (w.heap.size + 1) 60 26 (.slice V (k + i) vc) (k + i) (ndCells (List.replicate k Nd.zero ++ (R.take i).map (conv k))) ∧
          Below (w.heap.size + 1) (w.alloc (.cells #[.int .i64 0, .int .i64 0] 28)) wr ∧ Blk wr g3 101 cur)
        (fun _ x _ => (R.length - intOf x).toNat)
      case atStart => exact ⟨0, vc, V, by omega, rfl, rfl, by simpa using HO4.out, HB3.out, HBR.out⟩
      case round =>
        clear HB3 HBR HO4 HOWN HB
        obtain ⟨i, vc5, V5, hi, rfl, rfl, hown5, hB5, hbR5⟩ := hrel
        obtain ⟨wo, rfl⟩ : ∃ wo : World, wo = wr := ⟨_, rfl⟩
        have hob5 := own_ob hown5
        have hlt5 := hbR5.lt
        have hsz5 : w.heap.size + 1 ≤ wo.heap.size := by have := hB5.size; simpa using this
        have HO5 := Lib.hid hown5; have HB5 := Lib.hid hB5; have HBR5 := Lib.hid hbR5; have HOB5 := Lib.hid hob5
        clear hown5 hB5 hbR5 hob5
        by_cases hli : i < R.length
        · obtain ⟨r, hr⟩ : ∃ r, R[i]? = some r := ⟨_, List.getElem?_eq_getElem hli⟩
          have hcr := HCELL.out i r hr
          have hsmr := HSM.out r (List.mem_of_getElem? hr)
          have htake : (R.take (i + 1)).map (conv k) = (R.take i).map (conv k) ++ [conv k r] := by
            obtain ⟨h1, h2⟩ := List.getElem?_eq_some_iff.1 hr
            rw [List.take_succ_eq_append_getElem h1, h2, List.map_append]; rfl
          have htk2 : ndCells (List.replicate k Nd.zero ++ (R.take (i + 1)).map (conv k)) = ndCells (List.replicate k Nd.zero ++ (R.take i).map (conv k)) ++ (conv k r).cells.toList := by
            rw [htake, ← List.append_assoc, ndCells_append]; simp [ndCells]
          have HTK := Lib.hid htk2; have HCR := Lib.hid hcr; have HSMR := Lib.hid hsmr
          have r0 : wo.cell? ⟨g3, i * 21, none⟩ = some (.bool r.leaf) := by rw [HBR5.out.cell]; exact hcr 0 _ r.cells_0
          have r1 : wo.cell? ⟨g3, i * 21 + 1, none⟩ = some (.int .i64 r.count) := by rw [HBR5.out.cell]; exact hcr 1 _ r.cells_1
          clear hr hcr hsmr htake htk2
          cases hlf : r.leaf with
          | true =>
            rw [hlf] at r0
            have r18 : wo.cell? ⟨g3, i * 21 + 18, none⟩ = some (.int .u32 r.rc.uid) := by rw [HBR5.out.cell]; exact HCR.out 18 _ r.cells_18
            have r19 : wo.cell? ⟨g3, i * 21 + 18 + 1, none⟩ = some (.int .u8 r.rc.fl) := by rw [HBR5.out.cell]; exact HCR.out 19 _ r.cells_19
            have r20 : wo.cell? ⟨g3, i * 21 + 18 + 2, none⟩ = some (.string r.rc.txt) := by rw [HBR5.out.cell]; exact HCR.out 20 _ r.cells_20
            have hcv : conv k r = Nd.leaf r.rc := by unfold conv; rw [hlf]; rfl
            have HCV := Lib.hid hcv; clear hcv
            go_wp2_with (first
              | (with_reducible refine pick (o := ⟨some 52, _, _, _, _, _⟩) ?_; refine wpList_value rfl (.agg (convAt k r 0).cells) (by kernel_rfl) ?_)
              | (with_reducible refine pick (o := ⟨none, .store 60 (.tmp 14) (.tmp 52), _, _, _, _⟩) ?_; refine wpList_store_new (n := convAt k r 0) rfl (.tmp 14) (.tmp 52) rfl _ rfl rfl rfl ?_)
              | (go_at_call 40; refine (own_any _ _ _ _).mono ?_; rintro e w6 ⟨rfl, hb6⟩)
              | (with_reducible refine pick (o := ⟨some 64, _, _, _, _, _⟩) ?_; refine wpList_value rfl (.agg (Nd.leaf r.rc).cells) (by kernel_rfl) ?_)
              | (with_reducible refine pick (o := ⟨none, .store 60 (.tmp 14) (.tmp 64), _, _, _, _⟩) ?_; refine wpList_store_blk (n := Nd.leaf r.rc) rfl (.tmp 14) (.tmp 64) rfl rfl rfl ((Blk.new wo 60 (convAt k r 0).cells).stay hb6) rfl ?_; intro w7 hbn7 hg7))
            have hb7 : Below wo.heap.size wo w7 := (below_on (below_alloc (Below.refl wo.heap.size wo) _) hb6).grown hg7 (by have := hb6.size; simp at this; omega) (by rintro g ⟨⟩; exact Nat.le_refl _)
            have q0 : w7.cell? ⟨g3, i * 21, none⟩ = some (.bool true) := by rw [hb7.cell (p := ⟨g3, i * 21, none⟩) hlt5]; exact r0
            have HB7 := Lib.hid hb7; have HBN7 := Lib.hid hbn7
            clear hb6 hg7 hb7 hbn7 r0 r1 r18 r19 r20
            go_loopw [15] (fun x wq => x = .int .i64 0 ∧ wq = w7) (fun _ _ => 0)
            case atStart => exact ⟨rfl, rfl⟩
            case round =>
              obtain ⟨rfl, rfl⟩ := hrel
              go_wp2_with (first
                | (with_reducible refine pick (o := ⟨some 101, .load 60 (.tmp 14), _, _, _, _⟩) ?_; refine wpList_load_nd (n := Nd.leaf r.rc) rfl (.tmp 14) rfl rfl (fun j c hj => by rw [Nat.zero_add, HBN7.out.cell]; exact hj) ?_)
                | (with_reducible refine pick (o := ⟨some 102, _, _, _, _, _⟩) ?_; refine wpList_one60 (n := Nd.leaf r.rc) rfl (.tmp 101) rfl rfl ?_)
                | (at_builtin; with_reducible refine pick (o := ⟨some 103, _, _, _, _, _⟩) ?_; refine wpList_app elem60 rfl (.tmp 100) (.tmp 102) rfl (w.heap.size + 1) V5 (k + i) vc5 _ rfl (own_kept HO5.out (grown_of_below HB7.out none) (by cases ob V5 <;> simp)) rfl rfl (Nd.cells_one _) (by omega) (by omega) (by have := HB7.out.size; omega) ?_; intro V8 c8 w8 hown8 hg8 hob8))
              have hb8 : Below (w.heap.size + 1) wr w8 := below_of_grown hg8 (by have := HB7.out.size; omega) (fun g hg => (HOB5.out g hg).1)
              go_roundw
              case rel =>
                refine ⟨i + 1, c8, V8, by omega, rfl, by go_num, ?_, (HB5.out.trans (HB7.out.mono hsz5)).trans hb8, ?_⟩
                · rw [HTK.out, HCV.out]; exact hown8
                · exact (HBR5.out.stay HB7.out).grown' hg8 (fun e => by have := own_ne HO5.out HBR5.out (by decide); exact this e)
              case measure => simp [intOf]; omega
          | false =>
            rw [hlf] at r0
            have hcv : (convAt k r 16).cells = (conv k r).cells := convAt_end k r hlf
            have HCV := Lib.hid hcv; clear hcv
            go_wp2_with (first
              | (with_reducible refine pick (o := ⟨some 52, _, _, _, _, _⟩) ?_; refine wpList_value rfl (.agg (convAt k r 0).cells) (by kernel_rfl) ?_)
              | (with_reducible refine pick (o := ⟨none, .store 60 (.tmp 14) (.tmp 52), _, _, _, _⟩) ?_; refine wpList_store_new (n := convAt k r 0) rfl (.tmp 14) (.tmp 52) rfl _ rfl rfl rfl ?_))
            have hbn7 := Blk.new wo 60 (convAt k r 0).cells
            have hb7 : Below wo.heap.size wo (wo.alloc (.cells (convAt k r 0).cells 60)) := below_alloc (Below.refl _ _) _
            have HB7 := Lib.hid hb7; have HBN7 := Lib.hid hbn7
            have R0 := Lib.hid r0
            clear hb7 hbn7 r0 r1
            go_loopw [15] (fun x wq => ∃ j : Nat, j ≤ 16 ∧ x = .int .i64 j ∧ Below wo.heap.size wo wq ∧ Blk wq wo.heap.size 60 (convAt k r j).cells) (fun x _ => (16 - intOf x).toNat)
            case atStart => exact ⟨0, by omega, rfl, HB7.out, HBN7.out⟩
            case round =>
              clear HB7 HBN7
              obtain ⟨j, hj, rfl, hbq, hbnq⟩ := hrel
              have q0 : wr.cell? ⟨g3, i * 21, none⟩ = some (.bool false) := by rw [hbq.cell (p := ⟨g3, i * 21, none⟩) hlt5]; exact R0.out
              have hszq := hbq.size
              have HBQ := Lib.hid hbq; have HBNQ := Lib.hid hbnq
              clear hbq hbnq
              by_cases hjl : j < 16
              · have hdj : decide ((j : Int) < 16) = true := by simp; omega
                have qk : wr.cell? ⟨g3, i * 21 + 2 + j, none⟩ = some (.int .i64 (r.kids j)) := by
                  rw [HBQ.out.cell (p := ⟨g3, i * 21 + 2 + j, none⟩) hlt5, HBR5.out.cell, Nat.add_assoc]
                  exact HCR.out (2 + j) _ (r.cells_kid j hjl)
                have qn : wr.cell? ⟨wo.heap.size, 2 + j, none⟩ = some (.int .i64 ((convAt k r j).kids j)) := by rw [HBNQ.out.cell]; exact Nd.cells_kid _ j hjl
                have qf := HBNQ.out.frozen
                obtain ⟨hk1, hk2⟩ := HSMR.out j hjl
                by_cases hk0 : 0 ≤ r.kids j
                · have hd0 : decide (0 ≤ r.kids j) = true := by simpa using hk0
                  go_wp2_with fail
                  go_roundw
                  case rel =>
                    refine ⟨j + 1, by omega, by go_num, (HBQ.out.setCell (Nat.le_refl _) _).setCell (Nat.le_refl _) _, ?_⟩
                    have h1 := (HBNQ.out.set_ (2 + j) (.int .i64 (r.kids j))).set_ (2 + j) (.int .i64 (r.kids j + k))
                    rw [Nd.cells_setKid _ _ j hjl, Nd.cells_setKid _ _ j hjl, ndKid_twice] at h1
                    have h2 := convAt_succ k r j
                    rw [if_pos hk0] at h2
                    rw [← h2]
                    exact h1
                  case measure => simp [intOf]; omega
                · have hd0 : decide (0 ≤ r.kids j) = false := by simpa using hk0
                  go_wp2_with fail
                  go_roundw
                  case rel =>
                    refine ⟨j + 1, by omega, by go_num, HBQ.out.setCell (Nat.le_refl _) _, ?_⟩
                    have h1 := HBNQ.out.set_ (2 + j) (.int .i64 (r.kids j))
                    rw [Nd.cells_setKid _ _ j hjl] at h1
                    have h2 := convAt_succ k r j
                    rw [if_neg hk0] at h2
                    rw [← h2]
                    exact h1
                  case measure => simp [intOf]; omega
              · have hdj : decide ((j : Int) < 16) = false := by simp; omega
                have hj16 : j = 16 := by omega
                have hbn16 : Blk wr wo.heap.size 60 (conv k r).cells := by
                  have := HBNQ.out
                  rw [hj16, HCV.out] at this
                  exact this
                have HBN16 := Lib.hid hbn16
                clear hj16 hbn16
                go_wp2_with (first
                  | (with_reducible refine pick (o := ⟨some 101, .load 60 (.tmp 14), _, _, _, _⟩) ?_; refine wpList_load_nd (n := conv k r) rfl (.tmp 14) rfl rfl (fun j c hj => by rw [Nat.zero_add, HBN16.out.cell]; exact hj) ?_)
                  | (with_reducible refine pick (o := ⟨some 102, _, _, _, _, _⟩) ?_; refine wpList_one60 (n := conv k r) rfl (.tmp 101) rfl rfl ?_)
                  | (at_builtin; with_reducible refine pick (o := ⟨some 103, _, _, _, _, _⟩) ?_; refine wpList_app elem60 rfl (.tmp 100) (.tmp 102) rfl (w.heap.size + 1) V5 (k + i) vc5 _ rfl (own_kept HO5.out (grown_of_below HBQ.out none) (by cases ob V5 <;> simp)) rfl rfl (Nd.cells_one _) (by omega) (by omega) (by omega) ?_; intro V8 c8 w8 hown8 hg8 hob8))
                have hb8 : Below (w.heap.size + 1) wr w8 := below_of_grown hg8 (by omega) (fun g hg => (HOB5.out g hg).1)
                go_roundw
                case rel =>
                  refine ⟨i + 1, c8, V8, by omega, rfl, by go_num, ?_, (HB5.out.trans (HBQ.out.mono hsz5)).trans hb8, ?_⟩
                  · rw [HTK.out]; exact hown8
                  · exact (HBR5.out.stay HBQ.out).grown' hg8 (fun e => by have := own_ne HO5.out HBR5.out (by decide); exact this e)
                case measure => simp [intOf]; omega
        · have hb28 : Blk wo w.heap.size 28 #[.int .i64 0, .int .i64 0] := HB0.out.below HB5.out (by omega)
          have t0 := hb28.cell 0
          have t1 := hb28.cell 1
          have tf := hb28.frozen
          have tl := hb28.lt
          clear hb28
          have hfin : ndCells (List.replicate k Nd.zero ++ (R.take i).map (conv k)) = ndCells (standS L k more) := by rw [HS.out, List.take_of_length_le (by omega)]
          have hsl : (standS L k more).length = k + i := by rw [HS.out]; simp; omega
          have HF := Lib.hid hfin; have HSL := Lib.hid hsl
          clear hfin hsl
          go_wp2_with fail
          have hbw : Below w.heap.size w wo := (below_alloc (Below.refl w.heap.size w) (.cells #[.int .i64 0, .int .i64 0] 28)).trans (HB5.out.mono (by omega))
          refine bodyPost_ret (v := .tuple #[.slice V5 (k + i) vc5, .agg #[.int .i64 k, .int .i64 H]]) (by simp [results, Try.results11, go_sem, t0, t1]) rfl ?_
          have hs1 := HO5.out
          rw [HF.out, ← HSL.out] at hs1
          have hs2 := own_kept hs1 (grown_set (grown_set (World.grownBy.refl wo (some w.heap.size)) (.inl rfl) (.int .i64 k) (p := ⟨w.heap.size, 0, none⟩)) (.inl rfl) (.int .i64 H) (p := ⟨w.heap.size, 1, none⟩)) (.inr (fun e => by have := (HOB5.out _ e).1; omega))
          refine ⟨V5, vc5, by rw [HSL.out, ← HH.out], shelf_of_own hs2, (hbw.setCell (Nat.le_refl _) _).setCell (Nat.le_refl _) _⟩

set_option maxRecDepth 100000 in
theorem stand_no (A : Option Addr) (c : Nat) (gap more : Int) (w : World) :
    Calls Try.prog 11 #[.slice A 0 c, .int .i64 gap, .int .i64 more] w fun e w' => e = .returned (.tuple #[.slice none 0 0, .agg #[.int .i64 (-1), .int .i64 0]]) ∧ Below w.heap.size w w' := by
  go_enter Try.func11, Try.ntmps11
  go_wp2_with fail
  exact bodyPost_ret (v := .tuple #[.slice none 0 0, .agg #[.int .i64 (-1), .int .i64 0]]) (by simp [results, Try.results11, go_sem]) rfl ⟨rfl, below_alloc (Below.refl _ _) _⟩

end Go.Proofs.Ytnekbbmhjbjicaa

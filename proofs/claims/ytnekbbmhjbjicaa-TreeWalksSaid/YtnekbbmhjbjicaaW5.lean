/- Walk: a tree's messages. -/
import Derived.Test.YtnekbbmhjbjicaaW4
import Derived.Shelf.Abstract
namespace Go.Proofs.Ytnekbbmhjbjicaa
open Go.RowKit
attribute [local go_sem] Oper.semAt_some

def isLeaf (x : Int × Nd) : Bool := x.2.kind == 2
/-- the messages among slots -/
def leaves (xs : List (Int × Nd)) : List Rc := (xs.filter isLeaf).map (·.2.rc)
def cnt (xs : List (Int × Nd)) (j : Nat) : Nat := (xs.take j).countP isLeaf
theorem cnt_zero (xs : List (Int × Nd)) : cnt xs 0 = 0 := rfl
theorem cnt_leaf : ∀ {xs : List (Int × Nd)} {j : Nat} {x : Int × Nd}, xs[j]? = some x → isLeaf x = true → (leaves xs)[cnt xs j]? = some x.2.rc ∧ cnt xs (j + 1) = cnt xs j + 1
  | [], j, x, h, _ => by simp at h
  | y :: xs, 0, x, h, hl => by
    simp at h; subst h
    simp [leaves, cnt, hl]
  | y :: xs, j + 1, x, h, hl => by
    obtain ⟨h1, h2⟩ := cnt_leaf (xs := xs) (j := j) (x := x) (by simpa using h) hl
    unfold leaves cnt at *
    by_cases hy : isLeaf y = true
    · simp only [List.take_succ_cons, List.countP_cons, hy, if_true, List.filter_cons_of_pos, List.map_cons, List.getElem?_cons_succ]
      refine ⟨h1, ?_⟩
      omega
    · have hy' : isLeaf y = false := by simpa using hy
      simp only [List.take_succ_cons, List.countP_cons, hy', List.filter_cons, Bool.false_eq_true, if_false, Nat.add_zero]
      exact ⟨h1, h2⟩
theorem cnt_branch : ∀ {xs : List (Int × Nd)} {j : Nat} {x : Int × Nd}, xs[j]? = some x → isLeaf x = false → cnt xs (j + 1) = cnt xs j
  | [], j, x, h, _ => by simp at h
  | y :: xs, 0, x, h, hl => by
    simp at h; subst h
    simp [cnt, hl]
  | y :: xs, j + 1, x, h, hl => by
    have h2 := cnt_branch (xs := xs) (j := j) (x := x) (by simpa using h) hl
    unfold cnt at *
    simp only [List.take_succ_cons, List.countP_cons]
    omega
theorem cnt_all (xs : List (Int × Nd)) : cnt xs xs.length = (leaves xs).length := by
  unfold cnt leaves; rw [List.take_length, List.length_map, List.countP_eq_length_filter]

theorem own_blk {β : Type} {B g : Nat} (hg : g < B) (t : TypeId) (cs : Array Value) : OwnFrom B (fun (_ : β) W => Blk W g t cs) := fun _ X _ row hs hgr hr =>
  (hgr.block g (Blk.lt hs) (fun e => by have := (hr g e.symm).1; omega)).trans hs

abbrev encR : Rc → Array Value := fun r => #[.agg #[.int .u32 r.uid, .int .u8 r.fl, .string r.txt]]

set_option maxRecDepth 100000 in
set_option maxHeartbeats 2000000 in
theorem walk1_gives {d : TypeId} {v : Value} {st : St} {B : Nat} {Inv : World → Prop} (hs : IsStore (.iface d v) st B Inv) (hneg : ∀ s, s < 0 → st s = none) (n₀ : Nat) (hB : B ≤ n₀) (w : World) (hn : n₀ ≤ w.heap.size) (bs bt r : Nat) (root h : Int)
    (hbs : Blk w bs 104 #[.iface d v]) (hbt : Blk w bt 28 #[.int .i64 root, .int .i64 h]) (hi : Inv w) (hd : Deep st r root) :
    Gives 46 #[.pointer (some ⟨bt, 0, none⟩), .pointer (some ⟨bs, 0, none⟩)] encR (leaves (wl st r root)) n₀ w := by
  intro l J Jx W hW hJ hJx hY h0
  have hi' := hs.keep _ _ hi hW
  have hbs' := (hbs.stay hW).alloc (.cells #[.func (.yield l) #[] #[]] 113)
  have hbt' := (hbt.stay hW).alloc (.cells #[.func (.yield l) #[] #[]] 113)
  have c0 := hbs'.cell 0
  have c1 := hbt'.cell 0
  have c2 := hbt'.cell 1
  have HW := Lib.hid hW; have HY := Lib.hid hY; have H0 := Lib.hid h0; have HI := Lib.hid hi'
  have HJ := Lib.hid hJ; have HJX := Lib.hid hJx; have HS := Lib.hid hs
  clear hbs' hbt' hbs hbt hi hi' hW hY h0 hJ hJx
  refine callsIn_of_wp_marks Try.func46 rfl trivial (wpIn_wide.2 ?_)
  simp only [Try.ntmps46, List.size_toArray, List.length_cons, List.length_nil, Nat.reduceAdd, Nat.reduceSub, Array.replicate_succ, Array.replicate_zero, List.push_toArray, List.append_toArray, List.nil_append, List.cons_append]
  go_wp2_with (go_at_call 24; refine (slotsF_any root h d v _).mono ?_; rintro e w' ⟨rfl, rfl⟩)
  obtain ⟨W2, hW2⟩ : ∃ W2, ((W.alloc (.cells #[.func (.yield l) #[] #[]] 113)).alloc (.cells #[.int .i64 root, .int .i64 h] 28)).alloc (.cells #[.iface d v] 104) = W2 := ⟨_, rfl⟩
  have hsz : W2.heap.size = W.heap.size + 3 := by rw [← hW2]; simp
  have hb2 : Below W.heap.size W W2 := by rw [← hW2]; exact below_alloc (below_alloc (below_alloc (Below.refl _ _) _) _) _
  have hbs2 : Blk W2 (W.heap.size + 1 + 1) 104 #[.iface d v] := by
    rw [← hW2]; have := Blk.new ((W.alloc (.cells #[.func (.yield l) #[] #[]] 113)).alloc (.cells #[.int .i64 root, .int .i64 h] 28)) 104 #[.iface d v]; simpa using this
  have hbt2 : Blk W2 (W.heap.size + 1) 28 #[.int .i64 root, .int .i64 h] := by
    rw [← hW2]; have := (Blk.new (W.alloc (.cells #[.func (.yield l) #[] #[]] 113)) 28 #[.int .i64 root, .int .i64 h]).alloc (.cells #[.iface d v] 104); simpa using this
  have hby2 : Blk W2 W.heap.size 113 #[.func (.yield l) #[] #[]] := by
    rw [← hW2]; exact ((Blk.new W 113 #[.func (.yield l) #[] #[]]).alloc _).alloc _
  have hnW : n₀ ≤ W.heap.size := Nat.le_trans hn HW.out.size
  rw [hW2]
  clear hW2 c0 c1 c2
  refine wp_range (encs := encS) (xs := wl st r root) (n₀ := n₀) rfl (Go.Proofs.enters_of Try.func44 (by kernel_rfl) rfl)
    (slots1_gives HS.out hneg n₀ hB W2 (by omega) _ _ r root h hbs2 hbt2 (hs.keep _ _ HI.out hb2) hd) (by omega) (fun _ => rfl)
    (fun j X => J (cnt (wl st r root) j) X ∧ Blk X W.heap.size 113 #[.func (.yield l) #[] #[]])
    (fun c _ X => c = .ret ∧ ∃ k, k < (leaves (wl st r root)).length ∧ Jx (k + 1) X)
    (OwnFrom.and (I := fun j X => J (cnt (wl st r root) j) X) (fun j X Y row hX hg hr => own_more HJ.out (by omega) _ X Y row hX hg hr) (own_blk (by omega) _ _))
    (fun c j X Y row hX hg hr => by obtain ⟨h1, k, h2, h3⟩ := hX; exact ⟨h1, k, h2, own_more HJX.out (by omega) _ X Y row h3 hg hr⟩)
    ⟨own_below HJ.out H0.out hb2, hby2⟩ ?round ?done ?stop
  case round =>
    rintro l' j ⟨s, n⟩ X hl' hx ⟨hJX, hBX⟩
    have HJX' := Lib.hid hJX; have HBX := Lib.hid hBX; have HX := Lib.hid hx
    clear hJX hBX hx
    gi_wp2_with (first
      | (refine wpListIn_store_new (nd := n) (Wide.round _) rfl (.tmp 5) (.tmp 10) rfl _ rfl rfl rfl ?_))
    refine ⟨(Held.refl _ _ _).alloc _, ⟨own_below HJ.out HJX'.out (below_alloc (Below.refl _ _) _), HBX.out.alloc _⟩, ?_⟩
    rintro Wb hblk hszb ⟨hJb, hBb⟩
    have hNb := hblk _ _ _ (Blk.new X 60 n.cells)
    have HBB := Lib.hid hBb; have HNB := Lib.hid hNb; have HJB := Lib.hid hJb
    have c0 : Wb.cell? ⟨X.heap.size, 0, none⟩ = some (.int .u8 n.kind) := hNb.cell 0
    have c18 : Wb.cell? ⟨X.heap.size, 18, none⟩ = some (.int .u32 n.rc.uid) := hNb.cell 18
    have c19 : Wb.cell? ⟨X.heap.size, 19, none⟩ = some (.int .u8 n.rc.fl) := hNb.cell 19
    have c20 : Wb.cell? ⟨X.heap.size, 20, none⟩ = some (.string n.rc.txt) := hNb.cell 20
    have cy : Wb.cell? ⟨W.heap.size, 0, none⟩ = some (.func (.yield l) #[] #[]) := hBb.cell 0
    clear hblk hJb hBb hNb
    by_cases hk : n.kind = 2
    · have hk2 : ((n.kind : Int) == 2) = true := by simp [hk]
      obtain ⟨hx1, hx2⟩ := cnt_leaf HX.out (by simp [isLeaf, hk])
      obtain ⟨fn, tmps, assign, body, hy, hR⟩ := HY.out _ _ _ hx1 HJB.out
      dsimp only [encR] at hy
      have hR' : RoundIn (Fence.wide.inRound l') 0 Try.prog l fn tmps assign body Wb _ := hR
      have HR := Lib.hid hR'
      have HX1 := Lib.hid hx1; have HX2 := Lib.hid hx2
      clear hR hR' hx1 hx2 hk
      gi_wp2_with fail
      refine HR.out.mono ?_
      clear HR hy
      rintro e W3 (⟨rfl, hJ3, hh3⟩ | ⟨rfl, hx3, hh3⟩)
      · gi_wp2_with fail
        exact ⟨hh3.less (Nat.le_refl _) (by omega), by rw [HX2.out]; exact hJ3, hh3.blk HBB.out (.inr (Nat.le_refl _))⟩
      · gi_wp2_with fail
        exact ⟨hh3.less (Nat.le_refl _) (by omega), rfl, _, (List.getElem?_eq_some_iff.1 HX1.out).1, hx3⟩
    · have hk2 : ((n.kind : Int) == 2) = false := by simp; omega
      have hx2 := cnt_branch HX.out (by simp [isLeaf, hk])
      have HX2 := Lib.hid hx2
      clear hx2 hk
      gi_wp2_with fail
      exact ⟨Held.refl _ _ _, by rw [HX2.out]; exact HJB.out, HBB.out⟩
  case done =>
    rintro D X hD ⟨hJX, _⟩ hK
    rw [cnt_all] at hJX
    go_wp2_with fail
    refine ⟨by simp, .inl ⟨_, _, rfl, run_takeDeferred hK, _, results_none rfl _ _ _, ⟨_, rfl⟩, .inl (HJ.out.putObj _ hJX (by omega) hK rfl)⟩⟩
  case stop =>
    rintro D c k X hD hk ⟨rfl, j, hj, hX⟩ hK
    go_wp2_with fail
    refine ⟨by simp, .inl ⟨_, _, rfl, run_takeDeferred hK, _, results_none rfl _ _ _, ⟨_, rfl⟩, .inr ⟨j, hj, HJX.out.putObj _ hX (by omega) hK rfl⟩⟩⟩
end Go.Proofs.Ytnekbbmhjbjicaa

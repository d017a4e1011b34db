/- Whole nodes: an array's slots read at once, a node stored into a block that is there; the contract of Tree.Select, over whatever store. -/
import Derived.Test.YtnekbbmhjbjicaaA3
import Derived.Deep.LoopGhost
namespace Go.Proofs.Ytnekbbmhjbjicaa
open Go.RowKit

/-- a node's slots -/
def Nd.kidL (n : Nd) : List Value :=
  [.int .i64 (n.kids 0), .int .i64 (n.kids 1), .int .i64 (n.kids 2), .int .i64 (n.kids 3),
    .int .i64 (n.kids 4), .int .i64 (n.kids 5), .int .i64 (n.kids 6), .int .i64 (n.kids 7),
    .int .i64 (n.kids 8), .int .i64 (n.kids 9), .int .i64 (n.kids 10), .int .i64 (n.kids 11),
    .int .i64 (n.kids 12), .int .i64 (n.kids 13), .int .i64 (n.kids 14), .int .i64 (n.kids 15)]

theorem Nd.kidL_get (n : Nd) : ∀ d : Nat, d < 16 → n.kidL[d]? = some (.int .i64 (n.kids d))
  | 0, _ => rfl | 1, _ => rfl | 2, _ => rfl | 3, _ => rfl | 4, _ => rfl | 5, _ => rfl | 6, _ => rfl | 7, _ => rfl
  | 8, _ => rfl | 9, _ => rfl | 10, _ => rfl | 11, _ => rfl | 12, _ => rfl | 13, _ => rfl | 14, _ => rfl | 15, _ => rfl
  | n + 16, h => by omega

/-- kids[d] of an array value -/
theorem run_kid (n : Nd) (w : World) : ∀ d : Nat, d < 16 → (Instr.index 55 (.agg n.kidL.toArray) (.int .i64 d)).run Try.prog w = .ok (.int .i64 (n.kids d)) w
  | 0, _ => by kernel_rfl | 1, _ => by kernel_rfl | 2, _ => by kernel_rfl | 3, _ => by kernel_rfl
  | 4, _ => by kernel_rfl | 5, _ => by kernel_rfl | 6, _ => by kernel_rfl | 7, _ => by kernel_rfl
  | 8, _ => by kernel_rfl | 9, _ => by kernel_rfl | 10, _ => by kernel_rfl | 11, _ => by kernel_rfl
  | 12, _ => by kernel_rfl | 13, _ => by kernel_rfl | 14, _ => by kernel_rfl | 15, _ => by kernel_rfl
  | n + 16, h => by omega

theorem und55 : Try.prog.underlying 55 = some (.array 16 3) := by kernel_rfl
theorem info55 : (Try.prog.info? 55).map (·.size) = some 16 := by kernel_rfl

section
variable {ops : Array Oper} {rest : List Oper} {o : Oper} {a : Act} {w : World} {Q : Exit → Act → World → Prop}

/-- n.Kids as a whole, out of a node's block -/
theorem wpList_load_kids {n : Nd} {g : Nat} {t : TypeId} (hg : o.guard = none) (x : Operand) (ho : o.op = .load 55 x) (hx : a.eval x = .pointer (some ⟨g, 2, none⟩)) (hb : Blk w g t n.cells)
    (h : wpList Try.prog ops Q rest (a.put o.dst (.agg n.kidL.toArray)) w) : wpList Try.prog ops Q (o :: rest) a w := by
  refine wpList_load_mid hg 55 x ho g 2 hx n.kidL _ ?_ und55 rfl (by rw [info55]; rfl) h
  intro j v hv
  have hj : j < 16 := (List.getElem?_eq_some_iff.1 hv).1
  rw [n.kidL_get j hj] at hv
  obtain rfl := Option.some.inj hv
  rw [hb.cell]
  exact n.cells_kid j hj

theorem Blk.setRow {g : Nat} {t : TypeId} {cs : Array Value} (h : Blk w g t cs) (c : Array Value) : Blk (w.setRow g c) g t c := setRow_heap w g cs c t (0, 0) h

theorem grownBy_setRow (w : World) (g : Nat) (c : Array Value) : w.grownBy (w.setRow g c) (some g) :=
  ⟨rfl, rfl, rfl, by simp [World.setRow], fun k _ hk => by
    simp only [World.setRow, Array.getElem?_modify]
    rw [if_neg (fun e => hk (by rw [e]))]⟩

theorem Blk.grown {w' : World} {g k : Nat} {t : TypeId} {cs : Array Value} (h : Blk w g t cs) (hg : w.grownBy w' (some k)) (hne : g ≠ k) : Blk w' g t cs :=
  (hg.block g h.lt (fun e => hne (Option.some.inj e))).trans h

/-- a whole node into a block that is there -/
theorem wpList_store_blk {n : Nd} {g : Nat} {c : Array Value} (hg : o.guard = none) (x y : Operand) (ho : o.op = .store 60 x y) (hx : a.eval x = .pointer (some ⟨g, 0, none⟩)) (hy : a.eval y = .agg n.cells) (hb : Blk w g 60 c) (hc : c.size = 26)
    (h : ∀ w', Blk w' g 60 n.cells → w.grownBy w' (some g) → wpList Try.prog ops Q rest (a.put o.dst undef) w') : wpList Try.prog ops Q (o :: rest) a w :=
  wpList_plain hg fun _ hK => by
    have hr := run_storeVar_row (P := Try.prog) w g 60 60 c n.cells hb info60 hc n.cells_one
    unfold Oper.wp execOp
    simp only [ho, hx, hy, Instr.storeAt, Instr.sureAddr, Sem.run_bind, Sem.run_pure, Result.andThen_ok, hr]
    exact hK _ _ (h _ (hb.setRow _) (grownBy_setRow _ _ _))
end

/-- the way down to the k-th message -/
def Picks (st : St) : Nat → Nd → Int → Nd → Prop
  | 0, n, _, m => m = n
  | r + 1, n, k, m => ∃ i n', i < 16 ∧ belSum st n.kids i ≤ k ∧ k < belSum st n.kids (i + 1) ∧ st (n.kids i) = some n' ∧ Picks st r n' (k - belSum st n.kids i) m

theorem Small.mono {st : St} (h : Small st) (kids : Nat → Int) (i j : Nat) (hij : i ≤ j) : belSum st kids i ≤ belSum st kids j := by
  induction j with
  | zero =>
    obtain rfl : i = 0 := by omega
    exact Int.le_refl _
  | succ j ih =>
    rcases Nat.lt_or_ge i (j + 1) with h1 | h1
    · have := ih (by omega)
      have := h.bel (kids j)
      simp only [belSum]
      omega
    · obtain rfl : i = j + 1 := by omega
      exact Int.le_refl _

set_option maxRecDepth 100000 in
theorem select_yes {sv : Value} {st : St} {B : Nat} {Inv : World → Prop} (hs : IsStore sv st B Inv) (hsm : Small st) (root : Int) (h : Nat) (k : Int) (n0 m : Nd) (h8 : h ≤ 8) (hr : st root = some n0) (hk0 : 0 ≤ k) (hk1 : k < n0.count)
    (hp : Picks st h n0 k m) (w : World) (hi : Inv w) :
    Calls Try.prog 20 #[.agg #[.int .i64 root, .int .i64 h], sv, .int .i64 k] w fun e w' => e = .returned (getV (some m)) ∧ Below w.heap.size w w' := by
  have hcnt : (Nd.of (st root)).count = n0.count := by rw [hr]; rfl
  have HP := Lib.hid hp; clear hp
  have hb0 : Below w.heap.size w ((w.alloc (.cells #[.int .i64 root, .int .i64 h] 28)).alloc (.cells #[.int .u32 0, .int .u8 0, .string ⟨#[]⟩] 33)) := below_alloc (below_alloc (Below.refl _ _) _) _
  have hi0 := hs.keep _ _ hi hb0
  have hblk : Blk ((w.alloc (.cells #[.int .i64 root, .int .i64 h] 28)).alloc (.cells #[.int .u32 0, .int .u8 0, .string ⟨#[]⟩] 33)) (w.heap.size + 1) 33 #[.int .u32 0, .int .u8 0, .string ⟨#[]⟩] := by
    have := Blk.new (w.alloc (.cells #[.int .i64 root, .int .i64 h] 28)) 33 #[.int .u32 0, .int .u8 0, .string ⟨#[]⟩]
    simpa using this
  have HBlk := Lib.hid hblk; clear hblk
  have HN := Lib.hid h8; clear h8
  go_enter Try.func20, Try.ntmps20
  go_wp2_with fail
  go_step3
  go_wp2_with (first
    | (go_at_call 17; refine (len_any hs root h _ hi0).mono ?_; rw [hcnt]; rintro e w1 ⟨rfl, hb1⟩; have hc1 := bcell hb1; obtain ⟨hc, hf⟩ := hc1; have hz : w.heap.size < w1.heap.size := by have := hb1.size; simp at this; omega)
    | (refine wpList_at rfl (.tmp 24) (.tmp 26) _ rfl hs root rfl rfl (hs.keep _ _ hi0 hb1) ?_; rw [hr]; intro w2 hb2; have hc2 := bcell hb2; obtain ⟨hcc, hff⟩ := hc2; have hz2 : w.heap.size < w2.heap.size := by have := hb2.size; omega)
    | (refine wpList_store_new (n := n0) rfl (.tmp 8) (.tmp 28) rfl _ rfl rfl rfl ?_))
  go_step3
  go_wp2_with fail
  have hbr : Blk (w2.alloc (.cells n0.cells 60)) (w.heap.size + 1) 33 #[.int .u32 0, .int .u8 0, .string ⟨#[]⟩] := ((HBlk.out.stay hb1).stay hb2).alloc _
  have hB2 : Below w.heap.size w (w2.alloc (.cells n0.cells 60)) := below_alloc (below_on (below_on hb0 hb1) hb2) _
  have hI2 : Inv (w2.alloc (.cells n0.cells 60)) := hs.keep _ _ hi hB2
  have hbn := Blk.new w2 60 n0.cells
  have hlt2 : w.heap.size + 1 < w2.heap.size := ((HBlk.out.stay hb1).stay hb2).lt
  have HBn := Lib.hid hbn; have HBr := Lib.hid hbr; clear hbn hbr
  clear hc hf hcc hff
  go_loopw [2, 32] (fun s x wr => ∃ (j r : Nat) (n : Nd) (q : Int), j + r = h ∧ s = .int .i64 q ∧ x = .int .i64 j ∧ Picks st r n q m ∧ Inv wr ∧ Below w.heap.size w wr ∧ Blk wr w2.heap.size 60 n.cells ∧ Blk wr (w.heap.size + 1) 33 #[.int .u32 0, .int .u8 0, .string ⟨#[]⟩])
    (fun _ x _ => (h - intOf x).toNat)
  case atStart => exact ⟨0, h, n0, k, by omega, rfl, rfl, HP.out, hI2, hB2, HBn.out, HBr.out⟩
  case round =>
    obtain ⟨j, r, n, q, hjr, rfl, rfl, hp, hI, hB, hbn, hbr⟩ := hrel
    have HBn := Lib.hid hbn; have HBr := Lib.hid hbr; clear hbn hbr
    clear hB2 hI2 hb1 hb2
    obtain ⟨wo, rfl⟩ : ∃ wo : World, wo = wr := ⟨_, rfl⟩
    rcases r with _ | r
    · obtain rfl : m = n := hp
      have c18 := m.cells_18
      have c19 := m.cells_19
      have c20 := m.cells_20
      obtain ⟨k0, k1, k2, kf⟩ := HBr.out.three
      have hge : ¬ (j : Int) < h := by omega
      have J := Lib.hid hjr; clear hjr
      have n18 : wo.cell? ⟨w2.heap.size, 18, none⟩ = some (.int .u32 m.rc.uid) := by rw [HBn.out.cell]; exact m.cells_18
      have n19 : wo.cell? ⟨w2.heap.size, 19, none⟩ = some (.int .u8 m.rc.fl) := by rw [HBn.out.cell]; exact m.cells_19
      have n20 : wo.cell? ⟨w2.heap.size, 20, none⟩ = some (.string m.rc.txt) := by rw [HBn.out.cell]; exact m.cells_20
      go_wp2_with fail
      exact bodyPost_ret (v := getV (some m)) (by simp [results, Try.results20, go_sem, k0, k1, k2]; rfl) rfl ⟨rfl, ((hB.setCell (by simp) _).setCell (by simp) _).setCell (by simp) _⟩
    · obtain ⟨i0, n', hi16, hlo, hhi, hst, hp'⟩ := hp
      have hlt : (j : Int) < h := by omega
      have HP' := Lib.hid hp'; have HST := Lib.hid hst; clear hp' hst
      have hj8 : j ≤ 8 := by have := HN.out; omega
      have J := Lib.hid hjr; clear hjr
      go_wp2_with (first | (refine wpList_load_kids (n := n) rfl (.tmp 34) rfl rfl HBn.out ?_))
      go_loopw [2, 36] (fun s x wq => ∃ i : Nat, i ≤ i0 ∧ s = .int .i64 (q - belSum st n.kids i) ∧ x = .int .i64 i ∧ Inv wq ∧ Below w.heap.size w wq ∧ Blk wq w2.heap.size 60 n.cells ∧ Blk wq (w.heap.size + 1) 33 #[.int .u32 0, .int .u8 0, .string ⟨#[]⟩])
        (fun _ x _ => (16 - intOf x).toNat)
      case atStart => exact ⟨0, by omega, by simp [belSum], rfl, hI, hB, HBn.out, HBr.out⟩
      case round =>
        obtain ⟨i, hii, rfl, rfl, hIq, hBq, hbnq, hbrq⟩ := hrel
        have HBnq := Lib.hid hbnq; have HBrq := Lib.hid hbrq; clear hbnq hbrq hI hB
        have hidx := fun W : World => run_kid n W i (by omega)
        have h16 : (i : Int) < 16 := by omega
        have hm1 := hsm.mono n.kids i i0 hii
        have hbe := hsm.bel (n.kids i)
        have hs0 := hsm.sum n.kids i
        have hs1 := hsm.sum n.kids i0
        have hs2 := hsm.sum n.kids (i0 + 1)
        rcases Nat.lt_or_ge i i0 with hl | hl
        · have hm2 := hsm.mono n.kids (i + 1) i0 (by omega)
          have hge : ¬ q - belSum st n.kids i < bel st (n.kids i) := by simp only [belSum] at hm2; omega
          clear hm2
          go_wp2_with (first
            | (go_at_call 43; refine (below_any hs (n.kids i) _ hIq).mono ?_; rintro e w3 ⟨rfl, hb3⟩))
          go_roundw
          case rel => exact ⟨i + 1, by omega, by rw [show belSum st n.kids (i + 1) = belSum st n.kids i + bel st (n.kids i) from rfl]; go_num, by go_num, hs.keep _ _ hIq hb3, below_on hBq hb3, HBnq.out.stay hb3, HBrq.out.stay hb3⟩
          case measure => simp [intOf]; omega
        · obtain rfl : i = i0 := by omega
          have hlt2 : q - belSum st n.kids i < bel st (n.kids i) := by simp only [belSum] at hhi; omega
          go_wp2_with (first
            | (go_at_call 43; refine (below_any hs (n.kids i) _ hIq).mono ?_; rintro e w3 ⟨rfl, hb3⟩)
            | (refine wpList_at rfl (.tmp 46) (.tmp 47) _ rfl hs (n.kids i) rfl rfl (hs.keep _ _ hIq hb3) ?_; rw [HST.out]; intro w4 hb4)
            | (refine wpList_store_blk (n := n') rfl (.tmp 8) (.tmp 49) rfl rfl rfl ((HBnq.out.stay hb3).stay hb4) rfl ?_; intro w5 hbn5 hg5))
          have hB4 := below_on (below_on hBq hb3) hb4
          have hB5 : Below w.heap.size w w5 := hB4.grown hg5 hB4.size (by rintro k ⟨⟩; omega)
          go_roundw
          case rel => exact ⟨j + 1, r, n', q - belSum st n.kids i, by have := J.out; omega, rfl, by go_num, HP'.out, hs.kept _ _ hi (hB5.mono (hs.le _ hi)), hB5, hbn5, ((HBrq.out.stay hb3).stay hb4).grown hg5 (by omega)⟩
          case measure => simp [intOf]; omega

set_option maxRecDepth 100000 in
theorem select_no {sv : Value} {st : St} {B : Nat} {Inv : World → Prop} (hs : IsStore sv st B Inv) (root h k : Int) (hk : k < 0 ∨ (Nd.of (st root)).count ≤ k) (w : World) (hi : Inv w) :
    Calls Try.prog 20 #[.agg #[.int .i64 root, .int .i64 h], sv, .int .i64 k] w fun e w' => e = .returned (getV none) ∧ Below w.heap.size w w' := by
  have hb0 : Below w.heap.size w ((w.alloc (.cells #[.int .i64 root, .int .i64 h] 28)).alloc (.cells #[.int .u32 0, .int .u8 0, .string ⟨#[]⟩] 33)) := below_alloc (below_alloc (Below.refl _ _) _) _
  have hi0 := hs.keep _ _ hi hb0
  by_cases hneg : k < 0
  · have hd : decide (k < 0) = true := by simpa using hneg
    clear hk
    go_enter Try.func20, Try.ntmps20
    go_wp2_with fail
    go_step3
    go_wp2_with fail
    rw [Exit.noGoto_ret]
    exact bodyPost_ret (v := getV none) (by simp [results, Try.results20, go_sem]; rfl) rfl ⟨rfl, below_alloc (below_alloc (Below.refl _ _) _) _⟩
  · have hge : (Nd.of (st root)).count ≤ k := by omega
    have hd : decide (k < 0) = false := by simpa using hneg
    have hd2 : decide ((Nd.of (st root)).count ≤ k) = true := by simpa using hge
    clear hk
    go_enter Try.func20, Try.ntmps20
    go_wp2_with fail
    go_step3
    go_wp2_with (first
      | (go_at_call 17; refine (len_any hs root h _ hi0).mono ?_; rintro e w1 ⟨rfl, hb1⟩; have hc1 := bcell hb1; obtain ⟨hc, hf⟩ := hc1; have hz : w.heap.size < w1.heap.size := by have := hb1.size; simp at this; omega))
    have hb := below_on hb0 hb1
    rw [Exit.noGoto_ret]
    exact bodyPost_ret (v := getV none) (by simp [results, Try.results20, go_sem, hc]; rfl) rfl ⟨rfl, ((hb.setCell (by simp) _).setCell (by simp) _).setCell (by simp) _⟩

end Go.Proofs.Ytnekbbmhjbjicaa

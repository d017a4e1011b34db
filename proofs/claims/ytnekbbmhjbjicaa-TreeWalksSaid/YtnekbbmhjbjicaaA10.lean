/- The contract of the reference's Build. -/
import Derived.Test.YtnekbbmhjbjicaaA9
namespace Go.Proofs.Ytnekbbmhjbjicaa
open Go.RowKit

theorem RecsAt.grown {w w' : World} {B : Nat} {A : Option Addr} {L : List Rc} {r : Option Nat} (h : RecsAt w B A L) (hg : w.grownBy w' r) (hB : B ≤ w.heap.size) (hne : ∀ g, ob A = some g → r ≠ some g) : RecsAt w' B A L := fun he => by
  obtain ⟨g, o, rfl, hlt, hc⟩ := h he
  have hb : w'.heap[g]? = w.heap[g]? := hg.block g (by omega) (fun e => hne g rfl e.symm)
  refine ⟨g, o, rfl, hlt, fun k r hk => ?_⟩
  obtain ⟨h1, h2, h3⟩ := hc k r hk
  exact ⟨(World.cell?_of_block (a := ⟨g, o + k * 3, none⟩) hb).trans h1, (World.cell?_of_block (a := ⟨g, o + k * 3 + 1, none⟩) hb).trans h2, (World.cell?_of_block (a := ⟨g, o + k * 3 + 2, none⟩) hb).trans h3⟩

theorem rc_one (u f : Int) (t : ByteArray) : (#[.int .u32 u, .int .u8 f, .string t] : Array Value).all (·.oneCell') = true := by simp [Value.oneCell']

theorem below_on_grown {a w w1 : World} {r : Option Nat} (h : Below a.heap.size a w) (k : w.grownBy w1 r) (hr : ∀ g, r = some g → a.heap.size ≤ g) : Below a.heap.size a w1 := h.grown k h.size hr

theorem Blk.grown' {w w' : World} {g : Nat} {t : TypeId} {cs : Array Value} {r : Option Nat} (h : Blk w g t cs) (hg : w.grownBy w' r) (hne : r ≠ some g) : Blk w' g t cs :=
  (hg.block g h.lt (fun e => hne e.symm)).trans h

/-- the branch behind d rounds -/
def branchAt (h : Nat) (L : List Rc) (at_ d : Nat) : Rn := ⟨false, L.length, fun k => if k < d then kidBl (bl h) h L at_ k else 0, Rc.zero⟩

theorem branchAt_succ (h : Nat) (L : List Rc) (at_ d : Nat) : (branchAt h L at_ d).setKid d (kidBl (bl h) h L at_ d) = branchAt h L at_ (d + 1) := by
  unfold branchAt Rn.setKid
  congr 1
  funext k
  by_cases h1 : k = d
  · subst h1; simp
  · by_cases h2 : k < d
    · simp [h1, h2, Nat.lt_succ_of_lt h2]
    · have : ¬ k < d + 1 := by omega
      simp [h1, h2, this]
theorem setKid_twice (n : Rn) (d : Nat) (x y : Int) : (n.setKid d x).setKid d y = n.setKid d y := by
  unfold Rn.setKid
  congr 1
  funext k
  by_cases h1 : k = d <;> simp [h1]
theorem branchAt_end (h : Nat) (L : List Rc) (at_ : Nat) : (branchAt h L at_ 16).cells = (⟨false, L.length, kidBl (bl h) h L at_, Rc.zero⟩ : Rn).cells := rfl

/-- the nodes' row behind d rounds -/
abbrev rowAt (h : Nat) (L : List Rc) (xs : List Value) (at_ d : Nat) : List Value := xs ++ (branchAt h L at_ 0).cells.toList ++ rnCells (accBl (bl h) h L at_ d)

set_option maxRecDepth 100000 in
set_option maxHeartbeats 400000 in
theorem build_step (h : Nat) (h8 : h < 8)
    (ih : ∀ (A V : Option Addr) (c n vc base : Nat) (L : List Rc) (xs : List Value) (w : World), L ≠ [] → (∀ r ∈ L, r.uid < 4294967296) → w.ownsRow base 101 21 (.slice V n vc) n xs → base ≤ w.heap.size →
      RecsAt w w.heap.size A L → (∀ g, ob A = some g → ob V ≠ some g) → n + (bl h L n).length ≤ 100000 → L.length ≤ 1000 →
      Calls Try.prog 39 #[.slice V n vc, .slice A L.length c, .int .i64 ((h : Int) - 1)] w (BuildPost base V n xs (bl h L n) w))
    (A V : Option Addr) (c n vc base : Nat) (L : List Rc) (xs : List Value) (w : World) (hok : ∀ r ∈ L, r.uid < 4294967296) (hown : w.ownsRow base 101 21 (.slice V n vc) n xs) (hbase : base ≤ w.heap.size)
    (hl : RecsAt w w.heap.size A L) (hne : ∀ g, ob A = some g → ob V ≠ some g) (hn : n + (bl (h + 1) L n).length ≤ 100000) (hlen : L.length ≤ 1000) :
    Calls Try.prog 39 #[.slice V n vc, .slice A L.length c, .int .i64 h] w (BuildPost base V n xs (bl (h + 1) L n) w) := by
  obtain ⟨R, hR⟩ : ∃ R, R = bl (h + 1) L n := ⟨_, rfl⟩
  obtain ⟨T, hT⟩ : ∃ T, T = (accBl (bl h) h L n 16).length := ⟨_, rfl⟩
  rw [← hR]
  have hn16 : n + 1 + T ≤ 100000 := by rw [hT]; simp only [bl, List.length_cons] at hn; omega
  have HR := Lib.hid hR; have HT := Lib.hid hT
  clear hn hR hT
  have hob0 := own_ob hown
  have HO := Lib.hid hok; have HNE := Lib.hid hne; have IH := Lib.hid ih
  clear hok hne ih
  have hblk0 := Blk.new w 101 (branchAt h L n 0).cells
  have HB0 := Lib.hid hblk0; clear hblk0
  have hownA : (w.alloc (.cells (branchAt h L n 0).cells 101)).ownsRow base 101 21 (.slice V n vc) n xs := hown.alloc _
  have hdh : decide ((h : Int) < 0) = false := by simp
  go_enter Try.func39, Try.ntmps39
  go_wp2_with (first
    | (refine wpList_value (o := ⟨some 27, _, _, _, _, _⟩) rfl (.agg (branchAt h L n 0).cells) (by kernel_rfl) ?_)
    | (refine wpList_store_new101 (n := branchAt h L n 0) rfl (.tmp 9) (.tmp 27) rfl _ rfl rfl rfl ?_)
    | (refine wpList_load_rn (n := branchAt h L n 0) rfl (.tmp 9) rfl rfl HB0.out ?_)
    | (refine wpList_one101 (n := branchAt h L n 0) rfl (.tmp 29) rfl rfl ?_)
    | (at_builtin; refine wpList_app (o := ⟨some 31, _, _, _, _, _⟩) elem101 rfl (.tmp 28) (.tmp 30) rfl base V n vc xs rfl hownA rfl rfl (Rn.cells_one _) (by omega) (by omega) (by simp; omega) ?_; intro V1 c1 w1 hown1 hg1 hob1))
  have hbn1 : Blk w1 w.heap.size 101 (branchAt h L n 0).cells := by
    refine (hg1.block _ (by simp) (fun e => ?_)).trans HB0.out
    have := (hob0 _ e.symm).2; omega
  have hgw1 : w.grownBy w1 (ob V) := grown_trans (World.grownBy_alloc w _ (ob V)) hg1 (fun g hg => .inl hg)
  have hob1' : ∀ g, ob V1 = some g → ob V = some g ∨ w.heap.size < g := fun g hg => (hob1 g hg).imp id (fun h => by simp at h; omega)
  have HN1 := Lib.hid hbn1; have HOB1 := Lib.hid hob1'; have HOWN1 := Lib.hid hown1; have HG1 := Lib.hid hgw1
  clear hbn1 hob1' hob1 hown1 hg1 hgw1 hownA HB0
  go_loopw [0, 10] (fun s x wr => ∃ (d m c1 : Nat) (V1 : Option Addr), d ≤ 16 ∧ m = (accBl (bl h) h L n d).length ∧ s = .slice V1 (n + 1 + m) c1 ∧ x = .int .i64 d ∧
      wr.ownsRow base 101 21 (.slice V1 (n + 1 + m) c1) (n + 1 + m) (rowAt h L xs n d) ∧ Blk wr w.heap.size 101 (branchAt h L n d).cells ∧ w.grownBy wr (ob V) ∧ (∀ g, ob V1 = some g → ob V = some g ∨ w.heap.size < g))
    (fun _ x _ => (16 - intOf x).toNat)
  case atStart => exact ⟨0, 0, c1, V1, by omega, rfl, rfl, rfl, by simpa [rowAt, accBl, rnCells] using HOWN1.out, HN1.out, HG1.out, HOB1.out⟩
  case round =>
    clear HN1 HOB1 HOWN1 HG1
    obtain ⟨d, m, c2, V2, hd, hm, rfl, rfl, hown2, hbn2, hg2, hob2⟩ := hrel
    obtain ⟨wo, rfl⟩ : ∃ wo : World, wo = wr := ⟨_, rfl⟩
    have HM := Lib.hid hm; have HOWN := Lib.hid hown2; have HBN := Lib.hid hbn2; have HG := Lib.hid hg2; have HOB := Lib.hid hob2
    have hmT : n + 1 + m ≤ 100000 := by
      have := accBl_mono (bl h) h L n hd
      rw [← HM.out, ← HT.out] at this
      omega
    clear hm hown2 hbn2 hg2 hob2
    by_cases hlt : d < 16
    · have hdd : decide ((d : Int) < 16) = true := by simp; omega
      go_wp2_with fail
      go_loopw [11, 12] (fun s x wq => ∃ (i m pc : Nat) (P : Option Addr), i ≤ L.length ∧ m = (part h d (L.take i)).length ∧ s = .slice P m pc ∧ x = .int .i64 i ∧
          wq.ownsRow wo.heap.size 37 3 (.slice P m pc) m (rcCells (part h d (L.take i))) ∧ Below wo.heap.size wo wq)
        (fun _ x _ => (L.length - intOf x).toNat)
      case atStart => exact ⟨0, 0, 0, none, by omega, rfl, rfl, rfl, World.ownsRow_nil _ _ _ _, Below.refl _ _⟩
      case round =>
        obtain ⟨i, p, pc, P, hi, hp, rfl, rfl, hownp, hbp⟩ := hrel
        have HP := Lib.hid hp; have HOP := Lib.hid hownp; have HBP := Lib.hid hbp
        have hobp := own_ob hownp
        have hpi : p ≤ i := by rw [hp]; have := List.length_filter_le (fun r : Rc => dig r.uid h == d) (L.take i); simp at this; unfold part; omega
        clear hp hownp hbp
        by_cases hli : i < L.length
        · have hl' : RecsAt wr w.heap.size A L := (hl.grown HG.out (Nat.le_refl _) HNE.out).below (HBP.out.mono HG.out.size)
          obtain ⟨g, o, rfl, hg, hc⟩ := hl'.at_ hli
          obtain ⟨r, hr⟩ : ∃ r, L[i]? = some r := ⟨_, List.getElem?_eq_getElem hli⟩
          obtain ⟨h1, h2, h3⟩ := hc i r hr
          have hps := part_succ (h := h) (d := d) hr
          have hru : r.uid < 4294967296 := HO.out r (List.mem_of_getElem? hr)
          have HPS := Lib.hid hps
          clear hc hl' hr hps
          by_cases he : dig r.uid h = d
          · have he' : ((dig r.uid h : Int) == d) = true := by simp [he]
            have HE := Lib.hid he; clear he
            go_wp2_with (first
              | (go_at_call 63; refine (refDigit_any r.uid h hru h8 _).mono ?_; rintro e w' ⟨rfl, rfl⟩)
              | (at_builtin; refine wpList_app (o := ⟨some 57, _, _, _, _, _⟩) elem37 rfl (.tmp 51) (.tmp 56) rfl wo.heap.size P p pc _ rfl HOP.out rfl rfl (rc_one _ _ _) (by omega) (by omega) HBP.out.size ?_; intro P3 pc3 w3 hown3 hg3 hob3))
            go_roundw
            case rel => exact ⟨i + 1, p + 1, pc3, P3, by omega, by rw [HPS.out, if_pos HE.out, List.length_append, ← HP.out]; rfl, rfl, by go_num, by rw [HPS.out, if_pos HE.out, rcCells_append]; exact hown3, below_on_grown HBP.out hg3 (fun g hg => (hobp g hg).1)⟩
            case measure => simp [intOf]; omega
          · have he' : ((dig r.uid h : Int) == d) = false := by simp; omega
            have HE := Lib.hid he; clear he
            go_wp2_with (first
              | (go_at_call 63; refine (refDigit_any r.uid h hru h8 _).mono ?_; rintro e w' ⟨rfl, rfl⟩))
            go_roundw
            case rel => exact ⟨i + 1, p, pc, P, by omega, by rw [HPS.out, if_neg HE.out, List.append_nil]; exact HP.out, rfl, by go_num, by rw [HPS.out, if_neg HE.out, List.append_nil]; exact HOP.out, HBP.out⟩
            case measure => simp [intOf]; omega
        · obtain ⟨q, hq⟩ : ∃ q, q = part h d L := ⟨_, rfl⟩
          have hp : p = q.length := by rw [HP.out, hq, List.take_of_length_le (by omega)]
          have hop : wr.ownsRow wo.heap.size 37 3 (.slice P p pc) p (rcCells q) := by
            have := HOP.out
            rw [List.take_of_length_le (by omega), ← hq] at this
            exact this
          have HQ := Lib.hid hq; have HOQ := Lib.hid hop; have HPQ := Lib.hid hp
          clear hq hop hp
          have hbn : Blk wr w.heap.size 101 (branchAt h L n d).cells := HBN.out.stay HBP.out
          have HBR := Lib.hid hbn
          have kc : wr.cell? ⟨w.heap.size, 2 + d, none⟩ = some (.int .i64 ((branchAt h L n d).kids d)) := by rw [hbn.cell]; exact Rn.cells_kid _ d hlt
          have kf := hbn.frozen
          have hzw : w.heap.size < wr.heap.size := hbn.lt
          clear hbn
          have hownR : wr.ownsRow base 101 21 (.slice V2 (n + 1 + m) c2) (n + 1 + m) (rowAt h L xs n d) := own_kept HOWN.out (grown_of_below HBP.out none) (by cases ob V2 <;> simp)
          have hne2 : ob V2 ≠ some w.heap.size := fun e => by
            rcases HOB.out _ e with h1 | h1
            · have := (hob0 _ h1).2; omega
            · omega
          have hownW : (wr.setCell ⟨w.heap.size, 2 + d, none⟩ (.int .i64 (-1))).ownsRow base 101 21 (.slice V2 (n + 1 + m) c2) (n + 1 + m) (rowAt h L xs n d) :=
            own_kept hownR (grown_set (World.grownBy.refl wr (some w.heap.size)) (.inl rfl) _) (.inr hne2)
          have hbnW : Blk (wr.setCell ⟨w.heap.size, 2 + d, none⟩ (.int .i64 (-1))) w.heap.size 101 ((branchAt h L n d).setKid d (-1)).cells := by
            rw [← Rn.cells_setKid _ _ d hlt]; exact HBR.out.set_ _ _
          have hgW : w.grownBy (wr.setCell ⟨w.heap.size, 2 + d, none⟩ (.int .i64 (-1))) (ob V) :=
            grown_set (grown_trans HG.out (grown_of_below HBP.out none) (fun g hg => by cases hg)) (.inr (Nat.le_refl _)) _
          have HOW := Lib.hid hownW; have HBW := Lib.hid hbnW; have HGW := Lib.hid hgW; have HN2 := Lib.hid hne2
          clear hownR hownW hbnW hgW hne2
          rcases Nat.eq_zero_or_pos p with h0 | h0
          · have hd0 : decide (0 < p) = false := by simp [h0]
            have hpe : part h d L = [] := by rw [← HQ.out]; exact List.eq_nil_of_length_eq_zero (by rw [← HPQ.out]; exact h0)
            have H0 := Lib.hid hpe; clear h0 hpe
            go_wp2_with fail
            refine ⟨⟨d + 1, m, c2, V2, by omega, ?_, rfl, by go_num, ?_, ?_, HGW.out, HOB.out⟩, by simp [intOf]; omega⟩
            · rw [accBl, if_pos H0.out, List.append_nil]; exact HM.out
            · rw [rowAt, accBl, if_pos H0.out, List.append_nil]; exact HOW.out
            · rw [← branchAt_succ, kidBl, if_pos H0.out]; exact HBW.out
          · have hpe : ¬ part h d L = [] := by rw [← HQ.out]; intro e; have := HPQ.out; rw [e] at this; simp at this; omega
            have H0 := Lib.hid hpe; clear hpe
            have hqne : q ≠ [] := by rw [HQ.out]; exact H0.out
            have hqok : ∀ r ∈ q, r.uid < 4294967296 := by rw [HQ.out]; exact fun r hr => HO.out r (List.mem_filter.1 hr).1
            have hqacc : accBl (bl h) h L n (d + 1) = accBl (bl h) h L n d ++ bl h q (n + 1 + m) := by rw [accBl, if_neg H0.out, ← HQ.out, ← HM.out]
            have hqlen : n + 1 + m + (bl h q (n + 1 + m)).length ≤ 100000 := by
              have h1 := accBl_mono (bl h) h L n (show d + 1 ≤ 16 by omega)
              rw [hqacc, List.length_append, ← HM.out, ← HT.out] at h1
              omega
            have hqrec : RecsAt (wr.setCell ⟨w.heap.size, 2 + d, none⟩ (.int .i64 (-1))) (wr.setCell ⟨w.heap.size, 2 + d, none⟩ (.int .i64 (-1))).heap.size P q := by
              have h1 := HOQ.out
              rw [HPQ.out] at h1
              have h2 := own_kept h1 (grown_set (World.grownBy.refl wr (some w.heap.size)) (.inl rfl) (.int .i64 (-1)) (p := ⟨w.heap.size, 2 + d, none⟩)) (.inr (fun e => by have := (hobp _ e).1; have := HG.out.size; have := HBN.out.lt; omega))
              exact recs_of_own h2
            have hobp2 : ∀ g, ob P = some g → ob V2 ≠ some g := fun g hg e => by
              have h1 := (hobp g hg).1
              have h2 := (own_ob HOWN.out g e).2
              omega
            have hple : q.length ≤ 1000 := by rw [← HPQ.out]; omega
            have hpeq := HPQ.out
            have hcall := IH.out P V2 pc (n + 1 + m) c2 base q (rowAt h L xs n d) _ hqne hqok HOW.out (by have := HGW.out.size; omega) hqrec hobp2 hqlen hple
            rw [← hpeq] at hcall
            have HCALL := Lib.hid hcall
            have HAC := Lib.hid hqacc
            clear hqne hqok hqacc hqrec hobp2 hple hpeq hcall
            obtain ⟨R3, hR3⟩ : ∃ R3, R3 = bl h q (n + 1 + m) := ⟨_, rfl⟩
            have HR3 := Lib.hid hR3
            rw [← hR3] at hqlen
            clear hR3
            go_wp2_with fail
            refine HCALL.out.mono ?_
            rw [← HR3.out]
            rintro e w3 ⟨V3, c3, rfl, hown3, hg3, hob3⟩
            have hbn3 : Blk w3 w.heap.size 101 ((branchAt h L n d).setKid d (-1)).cells := HBW.out.grown' hg3 (fun e => HN2.out e)
            have HOWN3 := Lib.hid hown3; have HG3 := Lib.hid hg3; have HOB3 := Lib.hid hob3; have HBN3 := Lib.hid hbn3
            have kc3 : w3.cell? ⟨w.heap.size, 2 + d, none⟩ = some (.int .i64 (((branchAt h L n d).setKid d (-1)).kids d)) := by rw [hbn3.cell]; exact Rn.cells_kid _ d hlt
            have kf3 := hbn3.frozen
            have hlt3 := hbn3.lt
            clear hown3 hg3 hob3 hbn3 kc kf
            go_wp2_with fail
            have hne3 : ob V3 ≠ some w.heap.size := fun e => by
              rcases HOB3.out _ e with h1 | h1
              · exact HN2.out h1
              · have := HBW.out.lt; omega
            have hkid : kidBl (bl h) h L n d = ((n : Int) + 1 + m) := by rw [kidBl, if_neg H0.out, ← HM.out]; omega
            have hacc : rowAt h L xs n (d + 1) = rowAt h L xs n d ++ rnCells R3 := by rw [rowAt, HAC.out, rnCells_append, ← HR3.out]; simp only [List.append_assoc]
            have hlen3 : m + R3.length = (accBl (bl h) h L n (d + 1)).length := by rw [HAC.out, List.length_append, ← HM.out, HR3.out]
            refine ⟨⟨d + 1, m + R3.length, c3, V3, by omega, hlen3, by rw [Nat.add_assoc (n + 1)], by go_num, ?_, ?_, ?_, ?_⟩, by simp [intOf]; omega⟩
            · rw [hacc, ← Nat.add_assoc (n + 1)]
              exact own_kept HOWN3.out (grown_set (World.grownBy.refl w3 (some w.heap.size)) (.inl rfl) _) (.inr hne3)
            · rw [← branchAt_succ, ← setKid_twice _ d (-1), hkid, ← Rn.cells_setKid _ _ d hlt]
              exact HBN3.out.set_ _ _
            · exact grown_set (grown_trans HGW.out HG3.out (fun g hg => (HOB.out g hg).imp id (fun h => by omega))) (.inr (Nat.le_refl _)) _
            · intro g hg
              rcases HOB3.out g hg with h1 | h1
              · exact HOB.out g h1
              · right; have := HGW.out.size; have := HBW.out.lt; omega
    · obtain ⟨g, hV, hbg, hgl, cur, hh, hnc, hcm, hcs, htk⟩ := own_some HOWN.out (by omega)
      subst hV
      clear hh hnc hcm hcs htk
      have hd16 : d = 16 := by omega
      have hob16 := HOB.out g rfl
      have HD := Lib.hid hd16; have HO16 := Lib.hid hob16
      have hxl := hown.1
      have HXL := Lib.hid hxl
      have hlen21 : ((branchAt h L n 0).cells.toList).length = 21 := rfl
      have HL21 := Lib.hid hlen21
      clear hd16 hob16 hxl hlen21
      go_wp2_with (first
        | (refine wpList_load_rn (n := branchAt h L n d) rfl (.tmp 9) rfl rfl HBN.out ?_)
        | (refine wpList_store_own (ty := 101) (cells := (branchAt h L n d).cells) rfl (.tmp 78) (.tmp 77) rfl rfl HXL.out.symm rfl (by rw [elem_infos]; rfl) (Rn.cells_one _) HOWN.out HL21.out (by omega) ?_; intro w4 hown4 hg4))
      go_ret2
      have hdone : xs ++ (branchAt h L n d).cells.toList ++ rnCells (accBl (bl h) h L n d) = xs ++ rnCells R := by
        rw [HR.out, bl, HD.out, branchAt_end, rnCells_cons, List.append_assoc]
      have hR1 : R.length = T + 1 := by rw [HR.out, HT.out, bl, List.length_cons]
      have hT1 : T = m := by rw [HT.out, HM.out, HD.out]
      have e1 : n + 1 + m = n + R.length := by rw [hR1, hT1]; omega
      rw [e1, hdone] at hown4
      refine ⟨some ⟨g, 0, none⟩, c2, ?_, hown4, grown_trans HG.out hg4 (fun k hk => ?_), fun k hk => ?_⟩
      · rw [← e1]; rfl
      · cases hk; exact HO16.out.imp id Nat.le_of_lt
      · cases hk; exact HO16.out.imp id Nat.le_of_lt

theorem build_any : ∀ (h : Nat), h ≤ 8 → ∀ (A V : Option Addr) (c n vc base : Nat) (L : List Rc) (xs : List Value) (w : World), L ≠ [] → (∀ r ∈ L, r.uid < 4294967296) → w.ownsRow base 101 21 (.slice V n vc) n xs → base ≤ w.heap.size →
      RecsAt w w.heap.size A L → (∀ g, ob A = some g → ob V ≠ some g) → n + (bl h L n).length ≤ 100000 → L.length ≤ 1000 →
      Calls Try.prog 39 #[.slice V n vc, .slice A L.length c, .int .i64 ((h : Int) - 1)] w (BuildPost base V n xs (bl h L n) w)
  | 0, _ => fun A V c n vc base L xs w hne hok hown hbase hl hob hn hlen => by
    have e : ((0 : Nat) : Int) - 1 = -1 := rfl
    rw [e]
    exact build_leaf A V c n vc base L xs w hne hown hbase hl hn hlen
  | h + 1, h8 => fun A V c n vc base L xs w hne hok hown hbase hl hob hn hlen => by
    have e : ((h + 1 : Nat) : Int) - 1 = h := by omega
    rw [e]
    exact build_step h (by omega) (build_any h (by omega)) A V c n vc base L xs w hok hown hbase hl hob hn hlen

end Go.Proofs.Ytnekbbmhjbjicaa

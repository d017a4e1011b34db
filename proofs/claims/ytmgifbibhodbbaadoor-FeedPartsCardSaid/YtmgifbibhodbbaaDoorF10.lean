/- A feed takes bytes. -/
import Derived.Test.YtmgifbibhodbbaaDoorF9
namespace Go.Proofs.YtmgifbibhodbbaaDoor
open Go.RowKit

/-- the function that takes a byte, by the feed's mode -/
def fnId (m : Nat) : FuncId := if m = 0 then 50 else if m = 1 then 81 else 63
theorem step_any {n₀ : Nat} (B g N : Nat) (st : FS) (v : Value) (x : UInt8) (w : World) (h : Fd B g w st v) (hE : Env n₀ w) (hn : n₀ ≤ g) (hok : FS.ok N st) (hN : N < 1000000) :
    Calls Tryd.prog (fnId st.mode) #[.pointer (some ⟨g, 0, none⟩), .int .u8 x.toNat] w (Said B g w (stepF st x)) := by
  unfold fnId stepF
  by_cases h0 : st.mode = 0
  · rw [if_pos h0, if_pos h0]
    exact lineF_any B g N st v x w h hE hn h0 hok hN
  · rw [if_neg h0, if_neg h0]
    by_cases h1 : st.mode = 1
    · rw [if_pos h1, if_pos h1]
      exact litF_any B g N st v x w h h1 hok (by omega)
    · rw [if_neg h1, if_neg h1]
      exact skipF_any B g st v x w h

theorem fnId_one (m : Nat) : fnId m = 50 ∨ fnId m = 81 ∨ fnId m = 63 := by
  unfold fnId
  split
  · exact .inl rfl
  · split
    · exact .inr (.inl rfl)
    · exact .inr (.inr rfl)

/-- the cells of pieces -/
def pcs (L : List (Nat × List UInt8)) : List Value := L.flatMap (fun p => [.int .i64 p.1, .string (bytesOf p.2)])
theorem pcs_append (a b : List (Nat × List UInt8)) : pcs (a ++ b) = pcs a ++ pcs b := by simp [pcs]
theorem pcs_length (a : List (Nat × List UInt8)) : (pcs a).length = a.length * 2 := by
  induction a with
  | nil => rfl
  | cons x r ih => simp [pcs] at ih ⊢; omega
/-- bytes that lie below block B and not in block g -/
def BytesAt (w : World) (B g : Nat) (A : Option Addr) (l : List UInt8) : Prop :=
  l ≠ [] → ∃ b o, A = some ⟨b, o, none⟩ ∧ b < B ∧ b ≠ g ∧ ∀ k c, l[k]? = some c → w.cell? ⟨b, o + k, none⟩ = some (.int .u8 c.toNat)
theorem Fr.cell {g B : Nat} {a b : World} (h : Fr g B a b) {k o : Nat} (hk : k < B) (hB : B ≤ a.heap.size) (hne : k ≠ g) : b.cell? ⟨k, o, none⟩ = a.cell? ⟨k, o, none⟩ := by
  have e := h.block k (by omega) hne (.inl hk)
  simp only [World.cell?, e]
theorem BytesAt.kept {w w' : World} {B g : Nat} {A : Option Addr} {l : List UInt8} (h : BytesAt w B g A l) (hf : Fr g B w w') (hB : B ≤ w.heap.size) : BytesAt w' B g A l := fun hne => by
  obtain ⟨b, o, h1, h2, h3, h4⟩ := h hne
  exact ⟨b, o, h1, h2, h3, fun k c hk => (hf.cell h2 hB h3).trans (h4 k c hk)⟩

theorem Fr.own70 {g B D n : Nat} {a b : World} {v : Value} {xs : List Value} (h : Fr g B a b) (ho : a.ownsRow D 70 2 v n xs) (hg : g < D) : b.ownsRow D 70 2 v n xs := by
  refine ⟨ho.1, ?_⟩
  rcases ho.2 with h1 | ⟨k, cap, cur, hv, hk, hcur, rest⟩
  · exact .inl h1
  · refine .inr ⟨k, cap, cur, hv, hk, (h.block k (Array.getElem?_eq_some_iff.1 hcur).1 (by omega) (.inr ?_)).trans hcur, rest⟩
    rintro ⟨cs', fr, hx⟩
    rw [hcur] at hx
    injection hx with hx; injection hx with _ hx
    exact absurd hx (by decide)
theorem Fr.fresher {g B : Nat} {a b c : World} {r : Option Nat} (h : Fr g B a b) (q : b.grownBy c r) (hr : ∀ k, r = some k → a.heap.size ≤ k) : Fr g B a c :=
  ⟨q.os.trans h.os, q.tape.trans h.tape, q.output.trans h.output, Nat.le_trans h.size q.size, fun i hi hg hc =>
    (q.block i (Nat.lt_of_lt_of_le hi h.size) (fun e => by have := hr i e.symm; omega)).trans (h.block i hi hg hc)⟩
theorem Fd.past {B g D n : Nat} {a b : World} {st : FS} {v u : Value} {xs : List Value} (h : Fd B g a st v) (ho : a.ownsRow D 70 2 u n xs) (hg : g < D) (q : a.grownBy b u.ownBlock) : Fd B g b st v := by
  refine ⟨h.blk.grown q (fun e => by have := (ho.lt g e).1; omega), h.own.kept q ?_, h.lt, Nat.le_trans h.le q.size⟩
  rcases h.own.2 with ⟨hv, _⟩ | ⟨k, cap, cur, hv, _, hcur, _⟩
  · left; rw [hv]; rfl
  · right
    rw [hv]
    intro e
    have e : u.ownBlock = some k := e.symm
    rcases ho.2 with ⟨hu, _⟩ | ⟨k2, cap2, cur2, hu, _, hcur2, _⟩
    · rw [hu] at e; cases e
    · rw [hu] at e; injection e with e; subst e
      rw [hcur] at hcur2
      injection hcur2 with hx; injection hx with _ hx
      exact absurd hx (by decide)
theorem stepF_le (st : FS) (x : UInt8) : (stepF st x).2.toList.length ≤ 1 := by
  cases (stepF st x).2 <;> simp
theorem takeF_len (st : FS) (l : List UInt8) : (takeF st l).2.length ≤ l.length := by
  refine snoc_ind (P := fun l => (takeF st l).2.length ≤ l.length) (by simp [takeF]) (fun r c ih => ?_) l
  rw [takeF_snoc]
  have := stepF_le (takeF st r).1 c
  simp only [List.length_append, List.length_singleton]
  omega
/-- what Take answers -/
def TakePost (B g : Nat) (w : World) (r : FS × List (Nat × List UInt8)) (e : Ending) (w' : World) : Prop :=
  ∃ V c, e = .returned (.slice V r.2.length c) ∧ w'.ownsRow w.heap.size 70 2 (.slice V r.2.length c) r.2.length (pcs r.2) ∧ (∃ v', Fd B g w' r.1 v') ∧ Fr g B w w'

set_option maxHeartbeats 1600000 in
set_option maxRecDepth 100000 in
theorem take_bytes {n₀ : Nat} (B g N : Nat) (st : FS) (v : Value) (l : List UInt8) (A : Option Addr) (cap : Nat) (w : World) (h : Fd B g w st v) (hE : Env n₀ w) (hn : n₀ ≤ g) (hok : FS.ok N st) (hN : N + l.length < 1000000) (hb : BytesAt w B g A l) :
    Calls Tryd.prog 23 #[.pointer (some ⟨g, 0, none⟩), .slice A l.length cap] w (TakePost B g w (takeF st l)) := by
  have HF := Lib.hid h; have HE := Lib.hid hE; have HOK := Lib.hid hok; have HB := Lib.hid hb
  clear h hE hok hb
  go_enter Tryd.func23, Tryd.ntmps23
  go_wp2_with fail
  go_loopw [5, 12] (fun out i X => ∃ k : Nat, k ≤ l.length ∧ i = .int .i64 k ∧ ∃ V c v', out = .slice V (takeF st (l.take k)).2.length c ∧ X.ownsRow w.heap.size 70 2 (.slice V (takeF st (l.take k)).2.length c) (takeF st (l.take k)).2.length (pcs (takeF st (l.take k)).2) ∧
      Fd B g X (takeF st (l.take k)).1 v' ∧ Fr g B w X) (fun _ i _ => l.length - (intOf i).toNat)
  case atStart => exact ⟨0, Nat.zero_le _, rfl, none, 0, v, rfl, ⟨rfl, .inl ⟨rfl, rfl⟩⟩, HF.out, Fr.refl _ _ _⟩
  case round =>
    obtain ⟨k, hk, rfl, V, c, v', rfl, hown, hfd, hfr⟩ := hrel
    have hokk := takeF_ok HOK.out (l.take k)
    have htl : (l.take k).length = k := by simp; omega
    have hlen := takeF_len st (l.take k)
    rw [htl] at hokk hlen
    by_cases hlt : k < l.length
    · obtain ⟨x, hx⟩ : ∃ x, l[k]? = some x := ⟨_, List.getElem?_eq_getElem hlt⟩
      have htk : takeF st (l.take (k + 1)) = ((stepF (takeF st (l.take k)).1 x).1, (takeF st (l.take k)).2 ++ (stepF (takeF st (l.take k)).1 x).2.toList) := by
        rw [List.take_add_one, hx]; exact takeF_snoc st (l.take k) x
      obtain ⟨bb, bo, rfl, hbB, hbg, hcells⟩ := HB.out.kept hfr HF.out.le (fun e => by rw [e] at hlt; simp at hlt)
      have cx := hcells k x hx
      generalize hsk : takeF st (l.take k) = sk at *
      obtain ⟨s0, L⟩ := sk
      simp only at hown hfd hokk htk hlen
      have hst := step_any B g _ s0 v' x _ hfd (HE.out.on (hfr.below hn (by have := hfd.lt; omega) HE.out.le)) hn hokk (by omega)
      have d6 : World.cell? _ ⟨g, 6, none⟩ = some (Value.func (.func (fnId s0.mode)) #[.pointer (some ⟨g, 0, none⟩)] #[]) := hfd.blk.cell 6
      have hk1 : (0 : Int) ≤ (k : Int) := Int.natCast_nonneg _
      have hk2 : (k : Int) < (l.length : Int) := by omega
      obtain ⟨⟨s1, q⟩, hq⟩ : ∃ r, r = stepF s0 x := ⟨_, rfl⟩
      rw [← hq] at hst htk
      have hgw : g < w.heap.size := HF.out.blk.lt
      have HGW := Lib.hid hgw
      clear hgw
      have HO := Lib.hid hown; have HR := Lib.hid hfr; have HT := Lib.hid htk
      clear hown hfd hfr htk hcells hokk hx hsk hq HF
      rcases fnId_one s0.mode with hm | hm | hm
      all_goals
        rw [hm] at d6 hst
        have HS := Lib.hid hst
        clear hst hm
        go_wp2_with fail
        refine HS.out.mono ?_
        rintro e w2 ⟨rfl, ⟨v2, hd2⟩, hf2⟩
        have HD2 := Lib.hid hd2; have HF2 := Lib.hid hf2
        clear hd2 hf2 HS d6 cx
        cases q with
        | none =>
          simp only [Option.isSome_none]
          go_wp2_with fail
          go_roundw
          case rel =>
            have hT : takeF st (l.take (k + 1)) = (s1, L) := by rw [HT.out]; simp
            refine ⟨k + 1, by omega, by go_num, ?_⟩
            rw [hT]
            exact ⟨V, c, v2, rfl, (HF2.out.own70 HO.out HGW.out).alloc _, HD2.out.below (below_alloc (Below.refl _ _) _), (HR.out.trans HF2.out).alloc _⟩
          case measure => simp [intOf]; omega
        | some p =>
          simp only [Option.isSome_some]
          go_wp2_with (at_builtin; refine wpList_app elem70 rfl _ _ rfl w.heap.size V L.length c (pcs L) rfl ((HF2.out.own70 HO.out HGW.out).alloc _) (m := 1) (c := 1) (by simp; rfl) (by rfl) (by simp [Value.oneCell']) (by omega) (by omega) ?c5 ?_)
          case c5 =>
            have h1 := HR.out.size; have h2 := HF2.out.size; have h3 := (below_alloc (Below.refl w2.heap.size w2) (.cells #[.int .i64 p.1, .string (bytesOf p.2)] 70)).size
            omega
          intro V' c' w3 hown3 hgrow _
          have ho2 := (HF2.out.own70 HO.out HGW.out).alloc (.cells #[.int .i64 p.1, .string (bytesOf p.2)] 70)
          rw [← ob_slice V L.length c] at hgrow
          have HD3 := Lib.hid ((HD2.out.below (below_alloc (Below.refl _ _) (.cells #[.int .i64 p.1, .string (bytesOf p.2)] 70))).past ho2 HGW.out hgrow)
          have HR3 := Lib.hid (((HR.out.trans HF2.out).alloc (.cells #[.int .i64 p.1, .string (bytesOf p.2)] 70)).fresher hgrow (fun k e => (ho2.lt k e).1))
          have HO3 := Lib.hid hown3
          clear hown3 hgrow ho2 HO HR HF2 HD2
          go_wp2_with fail
          go_roundw
          case rel =>
            have hT : takeF st (l.take (k + 1)) = (s1, L ++ [p]) := by rw [HT.out]; simp
            refine ⟨k + 1, by omega, by go_num, ?_⟩
            rw [hT]
            have hp : pcs (L ++ [p]) = pcs L ++ #[Value.int .i64 p.1, .string (bytesOf p.2)].toList := by rw [pcs_append]; rfl
            have hl1 : (L ++ [p]).length = L.length + 1 := by simp
            rw [hl1, hp]
            exact ⟨V', c', v2, rfl, HO3.out, HD3.out, HR3.out⟩
          case measure => simp [intOf]; omega
    · have hkl : k = l.length := by omega
      subst hkl
      rw [List.take_length] at *
      clear hlt
      clear htl
      go_wp2_with fail
      go_ret
      exact ⟨V, c, rfl, hown, ⟨v', hfd⟩, hfr⟩

end Go.Proofs.YtmgifbibhodbbaaDoor

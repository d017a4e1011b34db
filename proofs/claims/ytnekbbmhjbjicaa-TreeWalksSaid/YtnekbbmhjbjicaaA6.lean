/- Messages in a slice: the contracts of the reference's Right, Height, Get, Rank, and of the statements' great. -/
import Derived.Test.YtnekbbmhjbjicaaA5
namespace Go.Proofs.Ytnekbbmhjbjicaa
open Go.RowKit

/-- A slice value of so many messages, which lie below block B. -/
def RecsAt (w : World) (B : Nat) (A : Option Addr) (L : List Rc) : Prop :=
  L ≠ [] → ∃ g o, A = some ⟨g, o, none⟩ ∧ g < B ∧ ∀ k r, L[k]? = some r →
    w.cell? ⟨g, o + k * 3, none⟩ = some (.int .u32 r.uid) ∧ w.cell? ⟨g, o + k * 3 + 1, none⟩ = some (.int .u8 r.fl) ∧ w.cell? ⟨g, o + k * 3 + 2, none⟩ = some (.string r.txt)

theorem RecsAt.below {w w' : World} {B : Nat} {A : Option Addr} {L : List Rc} (h : RecsAt w B A L) (hb : Below B w w') : RecsAt w' B A L := fun hne => by
  obtain ⟨g, o, ha, hg, hc⟩ := h hne
  refine ⟨g, o, ha, hg, fun k r hk => ?_⟩
  obtain ⟨h1, h2, h3⟩ := hc k r hk
  exact ⟨(hb.cell (p := ⟨g, o + k * 3, none⟩) hg).trans h1, (hb.cell (p := ⟨g, o + k * 3 + 1, none⟩) hg).trans h2, (hb.cell (p := ⟨g, o + k * 3 + 2, none⟩) hg).trans h3⟩
theorem RecsAt.at_ {w : World} {B : Nat} {A : Option Addr} {L : List Rc} (h : RecsAt w B A L) {k : Nat} (hk : k < L.length) : ∃ g o, A = some ⟨g, o, none⟩ ∧ g < B ∧ ∀ k r, L[k]? = some r →
    w.cell? ⟨g, o + k * 3, none⟩ = some (.int .u32 r.uid) ∧ w.cell? ⟨g, o + k * 3 + 1, none⟩ = some (.int .u8 r.fl) ∧ w.cell? ⟨g, o + k * 3 + 2, none⟩ = some (.string r.txt) :=
  h (fun e => by subst e; simp at hk)

/-- stands a message right at its place? -/
def okAt (L : List Rc) (k : Nat) : Bool :=
  match L[k]? with
  | none => true
  | some r => r.uid != 0 && (k == 0 || match L[k - 1]? with | none => true | some p => decide (p.uid < r.uid))
def rightB (L : List Rc) : Bool := (List.range L.length).all (okAt L)

theorem rightB_false {L : List Rc} {k : Nat} (hk : k < L.length) (h : okAt L k = false) : rightB L = false := by
  unfold rightB
  rw [List.all_eq_false]
  exact ⟨k, List.mem_range.2 hk, by simp [h]⟩
theorem rightB_true {L : List Rc} (h : ∀ i, i < L.length → okAt L i = true) : rightB L = true := by
  unfold rightB
  rw [List.all_eq_true]
  exact fun i hi => h i (List.mem_range.1 hi)

set_option maxRecDepth 100000 in
theorem right_any (A : Option Addr) (c B : Nat) (L : List Rc) (w : World) (hB : B ≤ w.heap.size) (hl : RecsAt w B A L) (hlen : L.length ≤ 1000000) :
    Calls Try.prog 38 #[.slice A L.length c] w fun e w' => e = .returned (.bool (rightB L)) ∧ Below w.heap.size w w' := by
  go_enter Try.func38, Try.ntmps38
  go_wp2_with fail
  go_loopw [3] (fun x wr => ∃ k : Nat, k ≤ L.length ∧ x = .int .i64 k ∧ (∀ i, i < k → okAt L i = true) ∧ Below w.heap.size w wr)
    (fun x _ => (L.length - intOf x).toNat)
  case atStart => exact ⟨0, by omega, rfl, fun i hi => by omega, Below.refl _ _⟩
  case round =>
    obtain ⟨k, hk, rfl, hok, hBw⟩ := hrel
    have HO := Lib.hid hok; clear hok
    have hl' := hl.below (hBw.mono hB)
    by_cases hlt : k < L.length
    · obtain ⟨g, o, rfl, hg, hc⟩ := hl'.at_ hlt
      have hr : L[k]? = some L[k] := List.getElem?_eq_getElem hlt
      generalize L[k] = r at hr
      have h1 := (hc k r hr).1
      by_cases hz : r.uid = 0
      · have hz' : ((r.uid : Int) == 0) = true := by simp [hz]
        have hok : okAt L k = false := by unfold okAt; rw [hr]; simp [hz]
        have HK := Lib.hid hok
        clear hc hl hl' hr hok hz
        go_wp2_with fail
        go_quiet (fail)
        go_wp2_with fail
        go_ret
        exact ⟨ret_bool (rightB_false hlt HK.out).symm, below_drewN hBw _⟩
      · have hz' : ((r.uid : Int) == 0) = false := by simp [hz]
        rcases Nat.eq_zero_or_pos k with hk0 | hk0
        · have hok : okAt L k = true := by unfold okAt; rw [hr]; simp [hz, hk0]
          have HK := Lib.hid hok
          have hk1 : decide (0 < k) = false := by simp [hk0]
          clear hc hl hl' hr hok hz hk0
          go_wp2_with fail
          go_quiet (fail)
          go_wp2_with fail
          go_roundw
          case rel => exact ⟨k + 1, by omega, by go_num, fun i hi => (Nat.lt_succ_iff_lt_or_eq.1 hi).elim (HO.out i) (fun e => e ▸ HK.out), below_drewN hBw _⟩
          case measure => simp [intOf]; omega
        · obtain ⟨p, rfl⟩ : ∃ p, k = p + 1 := ⟨k - 1, by omega⟩
          have hp : L[p]? = some (L[p]'(by omega)) := List.getElem?_eq_getElem (by omega)
          generalize L[p]'(by omega) = q at hp
          have h2 := (hc p q hp).1
          have hk1 : decide ((0 : Int) < ((p + 1 : Nat) : Int)) = true := by simp
          by_cases hle : r.uid ≤ q.uid
          · have hle' : decide ((r.uid : Int) ≤ q.uid) = true := by simp; omega
            have hok : okAt L (p + 1) = false := by unfold okAt; rw [hr]; simp [hp]; intro _; omega
            have HK := Lib.hid hok
            clear hc hl hl' hr hok hz hk0 hp
            go_wp2_with fail
            go_quiet (fail)
            go_wp2_with fail
            go_ret
            exact ⟨ret_bool (rightB_false hlt HK.out).symm, below_drewN hBw _⟩
          · have hle' : decide ((r.uid : Int) ≤ q.uid) = false := by simp; omega
            have hok : okAt L (p + 1) = true := by unfold okAt; rw [hr]; simp [hz, hp]; omega
            have HK := Lib.hid hok
            clear hc hl hl' hr hok hz hk0 hp
            go_wp2_with fail
            go_quiet (fail)
            go_wp2_with fail
            go_roundw
            case rel => exact ⟨p + 1 + 1, by omega, by go_num, fun i hi => (Nat.lt_succ_iff_lt_or_eq.1 hi).elim (HO.out i) (fun e => e ▸ HK.out), below_drewN hBw _⟩
            case measure => simp [intOf]; omega
    · go_wp2_with fail
      go_ret
      exact ⟨ret_bool (rightB_true fun i hi => HO.out i (by omega)).symm, hBw⟩

/-- too great, or not right? -/
def greatB (L : List Rc) (most : Nat) : Bool := (L.take (most + 1)).any (fun r => decide (300 < r.txt.size)) || (decide (most < L.length) || !rightB L)

theorem any_take_true {L : List Rc} {n k : Nat} {r : Rc} (hk : k < n) (hr : L[k]? = some r) (h : 300 < r.txt.size) : (L.take n).any (fun r => decide (300 < r.txt.size)) = true := by
  rw [List.any_eq_true]
  refine ⟨r, ?_, by simpa using h⟩
  have : (L.take n)[k]? = some r := by rw [List.getElem?_take]; simp [hk, hr]
  exact List.mem_of_getElem? this
theorem any_take_false {L : List Rc} {n : Nat} (h : ∀ i r, i < n → L[i]? = some r → r.txt.size ≤ 300) : (L.take n).any (fun r => decide (300 < r.txt.size)) = false := by
  rw [List.any_eq_false]
  intro r hr
  obtain ⟨i, hi, rfl⟩ := List.mem_iff_getElem.1 hr
  have h1 : i < n := by simp at hi; omega
  have hi2 : i < L.length := by simp at hi; omega
  have := h i L[i] h1 (List.getElem?_eq_getElem hi2)
  rw [List.getElem_take]
  simp; omega

set_option maxRecDepth 100000 in
theorem great_any (A : Option Addr) (c B : Nat) (L : List Rc) (most : Nat) (w : World) (hB : B ≤ w.heap.size) (hl : RecsAt w B A L) (hlen : L.length ≤ maxLen) (hm : most ≤ 1000) :
    Calls Try.prog 10 #[.slice A L.length c, .int .i64 most] w fun e w' => e = .returned (.bool (greatB L most)) ∧ Below w.heap.size w w' := by
  unfold maxLen at hlen
  go_enter Try.func10, Try.ntmps10
  go_wp2_with fail
  go_loopw [5] (fun x wr => ∃ k : Nat, k ≤ L.length ∧ k ≤ most + 1 ∧ x = .int .i64 k ∧ (∀ i r, i < k → L[i]? = some r → r.txt.size ≤ 300) ∧ wr = w)
    (fun x _ => (L.length - intOf x).toNat)
  case atStart => exact ⟨0, by omega, by omega, rfl, fun i r hi => by omega, rfl⟩
  case round =>
    obtain ⟨k, hk, hkm, rfl, hok, rfl⟩ := hrel
    have HO := Lib.hid hok; clear hok
    by_cases hlt : k < L.length ∧ k ≤ most
    · obtain ⟨hlt, hle⟩ := hlt
      have hd1 : decide ((k : Int) < L.length) = true := by simp; omega
      have hd2 : decide ((k : Int) ≤ most) = true := by simp; omega
      obtain ⟨g, o, rfl, hg, hc⟩ := hl.at_ hlt
      have hr : L[k]? = some L[k] := List.getElem?_eq_getElem hlt
      generalize L[k] = r at hr
      have h1 := (hc k r hr).2.2
      have HR := Lib.hid hr
      clear hc hl hr
      by_cases hz : 300 < r.txt.size
      · have hz' : decide ((300 : Int) < r.txt.size) = true := by simp; omega
        go_wp2_with fail
        go_ret
        exact ⟨ret_bool (by unfold greatB; rw [any_take_true (by omega) HR.out hz]; rfl), Below.refl _ _⟩
      · have hz' : decide ((300 : Int) < r.txt.size) = false := by simp; omega
        go_wp2_with fail
        go_roundw
        case rel => exact ⟨k + 1, by omega, by omega, by go_num, fun i r' hi hr' => (Nat.lt_succ_iff_lt_or_eq.1 hi).elim (fun h => HO.out i r' h hr') (fun e => by rw [e, HR.out] at hr'; cases hr'; omega), trivial⟩
        case measure => simp [intOf]; omega
    · have hf : (L.take (most + 1)).any (fun r => decide (300 < r.txt.size)) = false := any_take_false (fun i r hi hr => by
        have hi2 : i < L.length := (List.getElem?_eq_some_iff.1 hr).1
        exact HO.out i r (by omega) hr)
      have HF := Lib.hid hf; clear hf
      by_cases hgt : most < L.length
      · have hd3 : decide ((most : Int) < L.length) = true := by simp; omega
        by_cases hlt2 : k < L.length
        · have hd1 : decide ((k : Int) < L.length) = true := by simp; omega
          have hd2 : decide ((k : Int) ≤ most) = false := by simp; omega
          go_wp2_with fail
          go_ret
          exact ⟨ret_bool (by unfold greatB; rw [HF.out]; simp [hgt]), Below.refl _ _⟩
        · have hd1 : decide ((k : Int) < L.length) = false := by simp; omega
          go_wp2_with fail
          go_ret
          exact ⟨ret_bool (by unfold greatB; rw [HF.out]; simp [hgt]), Below.refl _ _⟩
      · have hd3 : decide ((most : Int) < L.length) = false := by simp; omega
        have hd1 : decide ((k : Int) < L.length) = false := by simp; omega
        go_wp2_with (first
          | (go_at_call 38; refine (right_any A c B L _ hB hl (by omega)).mono ?_; rintro e w1 ⟨rfl, hb1⟩))
        go_ret
        exact ⟨ret_bool (by unfold greatB; rw [HF.out]; simp [hgt]), hb1⟩

/-- the last message's number has so many digits -/
def height (L : List Rc) : Nat := match L.getLast? with | none => 0 | some r => need r.uid

set_option maxRecDepth 100000 in
theorem height_any (A : Option Addr) (c B : Nat) (L : List Rc) (w : World) (hl : RecsAt w B A L) (hlen : L.length ≤ 1000000) (hok : ∀ r ∈ L, r.uid < 4294967296) :
    Calls Try.prog 31 #[.slice A L.length c] w fun e w' => e = .returned (.int .i64 (height L)) ∧ w = w' := by
  rcases Nat.eq_zero_or_pos L.length with h0 | h0
  · obtain rfl : L = [] := List.eq_nil_of_length_eq_zero h0
    simp only [List.length_nil]
    go_enter Try.func31, Try.ntmps31
    go_wp2_with fail
    go_ret
    exact ⟨rfl, rfl⟩
  · obtain ⟨p, hp⟩ : ∃ p, L.length = p + 1 := ⟨L.length - 1, by omega⟩
    obtain ⟨g, o, rfl, hg, hc⟩ := hl.at_ (k := p) (by omega)
    have hr : L[p]? = some (L[p]'(by omega)) := List.getElem?_eq_getElem (by omega)
    generalize hq : L[p]'(by omega) = r at hr
    have h1 := (hc p r hr).1
    have hu : r.uid < 4294967296 := hok r (List.mem_of_getElem? hr)
    have he : height L = need r.uid := by unfold height; rw [List.getLast?_eq_getElem?, hp, Nat.add_sub_cancel, hr]
    rw [hp] at hlen ⊢
    have HE := Lib.hid he
    clear hc hl hr hq hp he hok h0
    go_enter Try.func31, Try.ntmps31
    go_wp2_with (first
      | (go_at_call 19; refine (refNeed_any r.uid _ hu).mono ?_; rintro e w' ⟨rfl, rfl⟩))
    go_ret
    exact ⟨ret_int (by rw [HE.out]), rfl⟩

/-- the message of a number -/
def findR (L : List Rc) (u : Nat) : Option Rc := L.find? (fun r => r.uid == u)
def recV (o : Option Rc) : Value := .tuple #[.agg #[.int .u32 (o.getD Rc.zero).uid, .int .u8 (o.getD Rc.zero).fl, .string (o.getD Rc.zero).txt], .bool o.isSome]

theorem findR_none {L : List Rc} {u : Nat} (h : ∀ i r, i < L.length → L[i]? = some r → r.uid ≠ u) : findR L u = none := by
  unfold findR
  rw [List.find?_eq_none]
  intro r hr
  obtain ⟨i, hi, rfl⟩ := List.mem_iff_getElem.1 hr
  simpa using h i _ hi (List.getElem?_eq_getElem hi)
theorem findR_some {L : List Rc} {u k : Nat} {r : Rc} (hk : L[k]? = some r) (hu : r.uid = u) (h : ∀ i r, i < k → L[i]? = some r → r.uid ≠ u) : findR L u = some r := by
  unfold findR
  rw [List.find?_eq_some_iff_getElem]
  obtain ⟨hlt, hk'⟩ := List.getElem?_eq_some_iff.1 hk
  exact ⟨by simpa using hu, k, hlt, hk', fun j hj => by simpa using h j _ hj (List.getElem?_eq_getElem (by omega))⟩

set_option maxRecDepth 100000 in
theorem refGet_any (A : Option Addr) (c B : Nat) (L : List Rc) (u : Nat) (w : World) (hB : B ≤ w.heap.size) (hl : RecsAt w B A L) (hlen : L.length ≤ 1000000) :
    Calls Try.prog 13 #[.slice A L.length c, .int .u32 u] w fun e w' => e = .returned (recV (findR L u)) ∧ Below w.heap.size w w' := by
  have hl0 := hl.below (((Below.refl w.heap.size w).alloc (Nat.le_refl _) (.cells #[.int .u32 0, .int .u8 0, .string ⟨#[]⟩] 37)).mono hB)
  clear hl
  go_enter Try.func13, Try.ntmps13
  go_wp2_with fail
  go_loop [6] (fun x => ∃ k : Nat, k ≤ L.length ∧ x = .int .i64 k ∧ (∀ i r, i < k → L[i]? = some r → r.uid ≠ u))
    (fun x => (L.length - intOf x).toNat)
  case atStart => exact ⟨0, by omega, rfl, fun i r hi => by omega⟩
  case round =>
    obtain ⟨k, hk, rfl, hok⟩ := hrel
    have HO := Lib.hid hok; clear hok
    by_cases hlt : k < L.length
    · obtain ⟨g, o, rfl, hg, hc⟩ := hl0.at_ hlt
      have hr : L[k]? = some L[k] := List.getElem?_eq_getElem hlt
      generalize L[k] = r at hr
      obtain ⟨h1, h2, h3⟩ := hc k r hr
      have HR := Lib.hid hr
      clear hc hl0 hr
      by_cases hz : r.uid = u
      · have hz' : ((r.uid : Int) == u) = true := by simp [hz]
        have HZ := Lib.hid hz; clear hz
        go_wp2_with fail
        rw [findR_some HR.out HZ.out HO.out]
        exact bodyPost_ret (v := recV (some r)) (by simp [results, Try.results13, go_sem]; rfl) rfl ⟨rfl, below_alloc (Below.refl _ _) _⟩
      · have hz' : ((r.uid : Int) == u) = false := by simp; omega
        have HZ := Lib.hid hz; clear hz
        go_wp2_with fail
        go_round
        case rel => exact ⟨k + 1, by omega, by go_num, fun i r' hi hr' => (Nat.lt_succ_iff_lt_or_eq.1 hi).elim (fun h => HO.out i r' h hr') (fun e => by rw [e, HR.out] at hr'; cases hr'; exact HZ.out)⟩
        case measure => simp [intOf]; omega
    · go_wp2_with fail
      rw [findR_none (fun i r hi => HO.out i r (by omega))]
      exact bodyPost_ret (v := recV none) (by simp [results, Try.results13, go_sem]; rfl) rfl ⟨rfl, below_alloc (Below.refl _ _) _⟩

/-- how many have a lesser number -/
def rankR (L : List Rc) (u : Nat) : Nat := L.countP (fun r => decide (r.uid < u))

theorem rankR_succ {L : List Rc} {k u : Nat} {r : Rc} (hr : L[k]? = some r) : rankR (L.take (k + 1)) u = rankR (L.take k) u + if r.uid < u then 1 else 0 := by
  obtain ⟨hlt, hk'⟩ := List.getElem?_eq_some_iff.1 hr
  unfold rankR
  rw [List.take_succ_eq_append_getElem hlt, List.countP_append, hk']
  by_cases h : r.uid < u <;> simp [h]

set_option maxRecDepth 100000 in
theorem refRank_any (A : Option Addr) (c B : Nat) (L : List Rc) (u : Nat) (w : World) (hl : RecsAt w B A L) (hlen : L.length ≤ 1000000) :
    Calls Try.prog 16 #[.slice A L.length c, .int .u32 u] w fun e w' => e = .returned (.int .i64 (rankR L u)) ∧ w = w' := by
  go_enter Try.func16, Try.ntmps16
  go_wp2_with fail
  go_loop [5, 6] (fun s x => ∃ k v : Nat, k ≤ L.length ∧ v ≤ k ∧ s = .int .i64 v ∧ x = .int .i64 k ∧ v = rankR (L.take k) u)
    (fun _ x => (L.length - intOf x).toNat)
  case atStart => exact ⟨0, 0, by omega, by omega, rfl, rfl, by simp [rankR]⟩
  case round =>
    obtain ⟨k, v, hk, hv, rfl, rfl, he⟩ := hrel
    have HE := Lib.hid he; clear he
    by_cases hlt : k < L.length
    · obtain ⟨g, o, rfl, hg, hc⟩ := hl.at_ hlt
      have hr : L[k]? = some L[k] := List.getElem?_eq_getElem hlt
      generalize L[k] = r at hr
      obtain ⟨h1, h2, h3⟩ := hc k r hr
      have HR := Lib.hid (rankR_succ (u := u) hr)
      clear hc hl hr h2 h3
      by_cases hz : r.uid < u
      · have hz' : decide ((r.uid : Int) < u) = true := by simp; omega
        go_wp2_with fail
        go_round
        case rel => exact ⟨k + 1, v + 1, by omega, by omega, by go_num, by go_num, by rw [HR.out, ← HE.out, if_pos hz]⟩
        case measure => simp [intOf]; omega
      · have hz' : decide ((r.uid : Int) < u) = false := by simp; omega
        go_wp2_with fail
        go_round
        case rel => exact ⟨k + 1, v, by omega, by omega, by go_num, by go_num, by rw [HR.out, ← HE.out, if_neg hz]; rfl⟩
        case measure => simp [intOf]; omega
    · go_wp2_with fail
      go_ret
      exact ⟨ret_int (by rw [HE.out, List.take_of_length_le (by omega)]), rfl⟩

end Go.Proofs.Ytnekbbmhjbjicaa

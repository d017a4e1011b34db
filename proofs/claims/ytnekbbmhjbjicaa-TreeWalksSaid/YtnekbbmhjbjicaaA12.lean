/- What trees tell, by their lists: Get, Rank, Len, Select over a right tree. -/
import Derived.Test.YtnekbbmhjbjicaaP2
namespace Go.Proofs.Ytnekbbmhjbjicaa
open Go.RowKit

/-- a tree has just these messages -/
def TreeOK (st : St) (root : Int) (h : Nat) (L : List Rc) : Prop :=
  Small st ∧ h ≤ 8 ∧ Sorted L ∧ ((L = [] ∧ h = 0 ∧ st root = none) ∨ (L ≠ [] ∧ 1 ≤ h ∧ RightAt st h root L ∧ ∀ r ∈ L, r.uid / 16 ^ h = 0))

theorem getV_rec (o : Option Nd) : getV o = recV (o.map (·.rc)) := by cases o <;> rfl

theorem lt_of_div {u h : Nat} (e : u / 16 ^ h = 0) : u < 16 ^ h := by
  have hp : 0 < 16 ^ h := Nat.pow_pos (by omega)
  rcases Nat.lt_or_ge u (16 ^ h) with h1 | h1
  · exact h1
  · have := Nat.div_pos h1 hp; omega

theorem TreeOK.get {st : St} {root : Int} {h : Nat} {L : List Rc} (hl : st (-1) = none) (ht : TreeOK st root h L) (u : Nat) : getV (getR st root h u) = recV (findR L u) := by
  obtain ⟨_, _, _, ⟨rfl, rfl, h3⟩ | ⟨h1, h2, h3, h4⟩⟩ := ht
  · have : ¬ need u ≤ 0 := by have := need_pos u; omega
    rw [getR_neg this, getV_rec]; rfl
  · rw [getV_rec]
    congr 1
    by_cases hn : need u ≤ h
    · have hu := (need_le_iff h u h2).1 hn
      rw [getR_pos hn, h3.get hl u]
      unfold findR
      refine find?_congr' fun r hr => ?_
      have hr2 := lt_of_div (h4 r hr)
      rw [Nat.mod_eq_of_lt hr2, Nat.mod_eq_of_lt hu]
    · have hu : 16 ^ h ≤ u := by
        rcases Nat.lt_or_ge u (16 ^ h) with h9 | h9
        · exact absurd ((need_le_iff h u h2).2 h9) hn
        · exact h9
      rw [getR_neg hn]
      symm
      unfold findR
      rw [Option.map_none, List.find?_eq_none]
      intro r hr
      have hr2 := lt_of_div (h4 r hr)
      simp; omega
where
  find?_congr' {L : List Rc} {p q : Rc → Bool} (h : ∀ r ∈ L, p r = q r) : L.find? p = L.find? q := by
    induction L with
    | nil => rfl
    | cons a L ih =>
      rw [List.find?_cons, List.find?_cons, h a (by simp), ih (fun r hr => h r (by simp [hr]))]

theorem TreeOK.count {st : St} {root : Int} {h : Nat} {L : List Rc} (ht : TreeOK st root h L) : (Nd.of (st root)).count = L.length := by
  obtain ⟨_, _, _, ⟨rfl, rfl, h3⟩ | ⟨h1, h2, h3, h4⟩⟩ := ht
  · rw [h3]; rfl
  · obtain ⟨h, rfl⟩ : ∃ k, h = k + 1 := ⟨h - 1, by omega⟩
    obtain ⟨_, n, j1, j2, j3, _⟩ := h3
    rw [j1]; exact j3

theorem tLen {sv : Value} {st : St} {B : Nat} {Inv : World → Prop} (hs : IsStore sv st B Inv) {root : Int} {h : Nat} {L : List Rc} (ht : TreeOK st root h L) (w : World) (hi : Inv w) :
    Calls Try.prog 17 #[.agg #[.int .i64 root, .int .i64 h], sv] w fun e w' => e = .returned (.int .i64 L.length) ∧ Below w.heap.size w w' := by
  have := len_any hs root h w hi
  rw [ht.count] at this
  exact this

theorem tGet {sv : Value} {st : St} {B : Nat} {Inv : World → Prop} (hs : IsStore sv st B Inv) {root : Int} {h : Nat} {L : List Rc} (ht : TreeOK st root h L) (u : Nat) (hu : u < 4294967296) (w : World) (hi : Inv w) :
    Calls Try.prog 12 #[.agg #[.int .i64 root, .int .i64 h], sv, .int .u32 u] w fun e w' => e = .returned (recV (findR L u)) ∧ Below w.heap.size w w' := by
  have := get_any hs root h u hu ht.2.1 w hi
  rw [ht.get hs.less u] at this
  exact this

theorem tRank {sv : Value} {st : St} {B : Nat} {Inv : World → Prop} (hs : IsStore sv st B Inv) {root : Int} {h : Nat} {L : List Rc} (ht : TreeOK st root h L) (u : Nat) (hu : u < 4294967296) (w : World) (hi : Inv w) :
    Calls Try.prog 15 #[.agg #[.int .i64 root, .int .i64 h], sv, .int .u32 u] w fun e w' => e = .returned (.int .i64 (rankR L u)) ∧ Below w.heap.size w w' := by
  by_cases hn : need u ≤ h
  · have h0 := rank_yes hs ht.1 root h u hu hn ht.2.1 w hi
    obtain ⟨_, h8, _, ⟨rfl, rfl, h3⟩ | ⟨h1, h2, h3, h4⟩⟩ := ht
    · have := need_pos u; omega
    · have hu2 := (need_le_iff h u h2).1 hn
      have e : rankL st u h root = (rankR L u : Nat) := by
        rw [h3.rank hs.less u]
        unfold rankR
        congr 1
        refine List.countP_congr fun r hr => ?_
        have hr2 := lt_of_div (h4 r hr)
        rw [Nat.mod_eq_of_lt hr2, Nat.mod_eq_of_lt hu2]
      rw [e] at h0
      exact h0
  · have h0 := rank_no hs root h u hu hn w hi
    have e : (rankR L u : Int) = L.length := by
      obtain ⟨_, h8, _, ⟨rfl, rfl, h3⟩ | ⟨h1, h2, h3, h4⟩⟩ := ht
      · rfl
      · have hu2 : 16 ^ h ≤ u := by
          rcases Nat.lt_or_ge u (16 ^ h) with h9 | h9
          · exact absurd ((need_le_iff h u h2).2 h9) hn
          · exact h9
        unfold rankR
        rw [List.countP_eq_length.2]
        intro r hr
        have hr2 := lt_of_div (h4 r hr)
        simp; omega
    rw [ht.count, ← e] at h0
    exact h0

theorem tSelect {sv : Value} {st : St} {B : Nat} {Inv : World → Prop} (hs : IsStore sv st B Inv) {root : Int} {h : Nat} {L : List Rc} (ht : TreeOK st root h L) (k : Nat) (r : Rc) (hk : L[k]? = some r) (w : World) (hi : Inv w) :
    Calls Try.prog 20 #[.agg #[.int .i64 root, .int .i64 h], sv, .int .i64 k] w fun e w' => e = .returned (recV (some r)) ∧ Below w.heap.size w w' := by
  have hc := ht.count
  obtain ⟨hsm, h8, hso, ⟨rfl, rfl, h3⟩ | ⟨h1, h2, h3, h4⟩⟩ := ht
  · simp at hk
  · obtain ⟨n, m, j1, rfl, j3⟩ := h3.picks hs.less hso h4 k r hk
    have hlt := (List.getElem?_eq_some_iff.1 hk).1
    rw [j1] at hc
    have hc' : n.count = L.length := hc
    exact select_yes hs hsm root h k n m h8 j1 (by omega) (by omega) j3 w hi

theorem tSelect_no {sv : Value} {st : St} {B : Nat} {Inv : World → Prop} (hs : IsStore sv st B Inv) {root : Int} {h : Nat} {L : List Rc} (ht : TreeOK st root h L) (k : Int) (hk : k < 0 ∨ (L.length : Int) ≤ k) (w : World) (hi : Inv w) :
    Calls Try.prog 20 #[.agg #[.int .i64 root, .int .i64 h], sv, .int .i64 k] w fun e w' => e = .returned (recV none) ∧ Below w.heap.size w w' := by
  have := select_no hs root h k (by rw [ht.count]; exact hk) w hi
  exact this

/-- Stand, whatever the list: a store, and its tree -/
def StandOK (L : List Rc) (gap more : Nat) (w : World) (e : Ending) (w' : World) : Prop :=
  ∃ (V : Option Addr) (c : Nat) (sh : List Nd) (root : Int) (h : Nat), e = .returned (.tuple #[.slice V sh.length c, .agg #[.int .i64 root, .int .i64 h]]) ∧ ShelfAt w' w'.heap.size V sh ∧ TreeOK (stOf sh) root h L ∧ Below w.heap.size w w' ∧
    (L ≠ [] → h = standH L more ∧ root = gap ∧ sh = standS L gap more) ∧ (L = [] → sh = [] ∧ root = -1 ∧ h = 0)

theorem standOK (A : Option Addr) (c gap more : Nat) (L : List Rc) (w : World) (hs : Sorted L) (hok : ∀ r ∈ L, r.uid < 4294967296) (hl : RecsAt w w.heap.size A L) (hlen : L.length ≤ 1000) (hgap : gap ≤ 1000) (hmore : more ≤ 1000) :
    Calls Try.prog 11 #[.slice A L.length c, .int .i64 gap, .int .i64 more] w (StandOK L gap more w) := by
  by_cases hne : L = []
  · subst hne
    refine (stand_no A c gap more w).mono ?_
    rintro e w' ⟨rfl, hb⟩
    refine ⟨none, 0, [], -1, 0, rfl, fun h => absurd rfl h, ⟨fun s n hn => ?_, by omega, List.Pairwise.nil, .inl ⟨rfl, rfl, stOf_neg (by omega)⟩⟩, hb, fun h => absurd rfl h, fun _ => ⟨rfl, rfl, rfl⟩⟩
    unfold stOf at hn
    split at hn <;> simp at hn
  · obtain ⟨h1, h2⟩ := stand_small hne hlen more
    refine (stand_yes A c gap more L w hne hok hl hlen hgap hmore h1 h2).mono ?_
    rintro e w' ⟨V, c', rfl, hsh, hb⟩
    refine ⟨V, c', standS L gap more, gap, standH L more, rfl, hsh, ⟨stand_counts hlen gap more, by unfold standH; omega, hs, .inr ⟨hne, ?_, stand_right hne hs hok gap more, standH_lt hs hok more⟩⟩, hb, fun _ => ⟨rfl, rfl, rfl⟩, fun h => absurd h hne⟩
    have hh : 1 ≤ height L := by
      unfold height
      rw [List.getLast?_eq_some_getLast hne]
      exact need_pos _
    unfold standH; omega

end Go.Proofs.Ytnekbbmhjbjicaa

/- The walk of FeedParts. -/
import Derived.Test.YtmgifbibhodbbaaDoorF13
namespace Go.Proofs.YtmgifbibhodbbaaDoor
open Go.RowKit

/-- numbers of a part's length that lie in a row below block n -/
def PartsAt (w : World) (n : Nat) (A : Option Addr) (P : List Nat) : Prop :=
  P ≠ [] → ∃ b o, A = some ⟨b, o, none⟩ ∧ b < n ∧ ∀ (k c : Nat), P[k]? = some c → w.cell? ⟨b, o + k, none⟩ = some (.int .u16 (c : Nat))
def BytesIn (w : World) (n : Nat) (A : Option Addr) (l : List UInt8) : Prop :=
  l ≠ [] → ∃ b o, A = some ⟨b, o, none⟩ ∧ b < n ∧ ∀ k c, l[k]? = some c → w.cell? ⟨b, o + k, none⟩ = some (.int .u8 c.toNat)

theorem BytesIn.part {w wr : World} {n B g : Nat} {A : Option Addr} {l : List UInt8} (h : BytesIn w n A l) (hb : Below n w wr) (hg : n ≤ g) (hB : n ≤ B) {c a t : Nat} (hc : l.length ≤ c) :
    BytesAt wr B g (if c = a then A else A.map (fun x => x.add a)) ((l.drop a).take (t - a)) := fun hne => by
  have hal : a < l.length := by
    rcases Nat.lt_or_ge a l.length with h' | h'
    · exact h'
    · exact absurd (by simp [List.drop_eq_nil_of_le h']) hne
  obtain ⟨b, o, rfl, hbn, hcells⟩ := h (fun e => by rw [e] at hal; simp at hal)
  have hca : c ≠ a := by omega
  refine ⟨b, o + a, ?_, by omega, by omega, fun k x hk => ?_⟩
  · rw [if_neg hca]
    simp only [Option.map_some, Addr.add]
    split <;> simp_all
  · rw [List.getElem?_take] at hk
    split at hk
    · rw [List.getElem?_drop] at hk
      have := (hb.cell (p := ⟨b, o + (a + k), none⟩) hbn).trans (hcells (a + k) x hk)
      rw [Nat.add_assoc]
      exact this
    · cases hk
theorem take_part (l : List UInt8) (a t : Nat) (hat : a ≤ t) (s : FS) : takeF s (l.take t) = ((takeF (takeF s (l.take a)).1 ((l.drop a).take (t - a))).1, (takeF s (l.take a)).2 ++ (takeF (takeF s (l.take a)).1 ((l.drop a).take (t - a))).2) := by
  have h : l.take t = l.take a ++ (l.drop a).take (t - a) := by
    have := List.take_add (l := l) (i := a) (j := t - a)
    rw [← this]
    congr 1
    omega
  rw [h, takeF_append]
theorem own_ne {a : World} {D t g n : Nat} {v : Value} {xs : List Value} {cs : Array Value} (ho : a.ownsRow D t 2 v n xs) (hb : Blk a g 68 cs) (ht : t ≠ 68) : v.ownBlock ≠ some g := by
  intro e
  rcases ho.2 with ⟨hv, _⟩ | ⟨k, cap, cur, hv, _, hcur, _⟩
  · rw [hv] at e; cases e
  · rw [hv] at e; injection e with e; subst e
    have hb' : a.heap[k]? = some (.cells cs 68 (0, 0)) := hb
    rw [hcur] at hb'
    injection hb' with hx; injection hx with _ hx
    exact ht hx
theorem Fr.own70b {g B D n : Nat} {a b : World} {v : Value} {xs : List Value} {cs : Array Value} (h : Fr g B a b) (ho : a.ownsRow D 70 2 v n xs) (hg : Blk a g 68 cs) : b.ownsRow D 70 2 v n xs := by
  refine ⟨ho.1, ?_⟩
  have hne := own_ne ho hg (by decide)
  rcases ho.2 with h1 | ⟨k, cap, cur, hv, hk, hcur, rest⟩
  · exact .inl h1
  · refine .inr ⟨k, cap, cur, hv, hk, (h.block k (Array.getElem?_eq_some_iff.1 hcur).1 (fun e => hne (by rw [hv, ← e]; rfl)) (.inr ?_)).trans hcur, rest⟩
    rintro ⟨cs', fr, hx⟩
    rw [hcur] at hx
    injection hx with hx; injection hx with _ hx
    exact absurd hx (by decide)
theorem Fr.own_other {g B D t n : Nat} {a b : World} {v : Value} {xs : List Value} {cs : Array Value} (h : Fr g B a b) (ho : a.ownsRow D t 2 v n xs) (hg : Blk a g 68 cs) (h5 : t ≠ 5) (h68 : t ≠ 68) : b.ownsRow D t 2 v n xs := by
  refine ⟨ho.1, ?_⟩
  have hne := own_ne ho hg h68
  rcases ho.2 with h1 | ⟨k, cap, cur, hv, hk, hcur, rest⟩
  · exact .inl h1
  · refine .inr ⟨k, cap, cur, hv, hk, (h.block k (Array.getElem?_eq_some_iff.1 hcur).1 (fun e => hne (by rw [hv, ← e]; rfl)) (.inr ?_)).trans hcur, rest⟩
    rintro ⟨cs', fr, hx⟩
    rw [hcur] at hx
    injection hx with hx; injection hx with _ hx
    exact h5 hx
theorem BytesIn.at {w wr : World} {n B g : Nat} {A : Option Addr} {l : List UInt8} (h : BytesIn w n A l) (hb : Below n w wr) (hg : n ≤ g) (hB : n ≤ B) : BytesAt wr B g A l := fun hne => by
  obtain ⟨b, o, h1, hbn, hcells⟩ := h hne
  exact ⟨b, o, h1, by omega, by omega, fun k x hk => (hb.cell (p := ⟨b, o + k, none⟩) hbn).trans (hcells k x hk)⟩
theorem Fr.fd {B g B' g' : Nat} {a b : World} {st : FS} {v : Value} (h : Fr g' B' a b) (hf : Fd B g a st v) (hne : g ≠ g') (hB : a.heap.size ≤ B') (hvb : v.ownBlock ≠ some g') : Fd B g b st v := by
  refine ⟨h.blk hf.blk hne (.inl (by have := hf.blk.lt; omega)), ⟨hf.own.1, ?_⟩, hf.lt, Nat.le_trans hf.le h.size⟩
  rcases hf.own.2 with h1 | ⟨k, cap, cur, hv, hk, hcur, rest⟩
  · exact .inl h1
  · have hlt := (Array.getElem?_eq_some_iff.1 hcur).1
    exact .inr ⟨k, cap, cur, hv, hk, (h.block k hlt (fun e => hvb (by rw [hv, ← e]; rfl)) (.inl (by omega))).trans hcur, rest⟩
theorem Fd.other {B g g' : Nat} {a : World} {st : FS} {v : Value} {cs : Array Value} (hf : Fd B g a st v) (hg : Blk a g' 68 cs) : v.ownBlock ≠ some g' := by
  intro e
  rcases hf.own.2 with ⟨hv, _⟩ | ⟨k, cap, cur, hv, _, hcur, _⟩
  · rw [hv] at e; cases e
  · rw [hv] at e; injection e with e; subst e
    have hb' : a.heap[k]? = some (.cells cs 68 (0, 0)) := hg
    rw [hcur] at hb'
    injection hb' with hx; injection hx with _ hx
    exact absurd hx (by decide)
theorem PcsAt.mono {w : World} {n m : Nat} {A : Option Addr} {L : List (Nat × List UInt8)} (h : PcsAt w n A L) (hm : n ≤ m) : PcsAt w m A L := fun hne => by
  obtain ⟨b, o, h1, h2, h3⟩ := h hne
  exact ⟨b, o, h1, by omega, h3⟩
theorem Fd.past2 {B g D n : Nat} {a b : World} {st : FS} {v u : Value} {xs : List Value} (h : Fd B g a st v) (ho : a.ownsRow D 70 2 u n xs) (q : a.grownBy b u.ownBlock) : Fd B g b st v := by
  refine ⟨h.blk.grown q (own_ne ho h.blk (by decide)), h.own.kept q ?_, h.lt, Nat.le_trans h.le q.size⟩
  rcases h.own.2 with ⟨hv, _⟩ | ⟨k, cap, cur, hv, _, hcur, _⟩
  · left; rw [hv]; rfl
  · right
    rw [hv]
    intro e
    have e : u.ownBlock = some k := e.symm
    rcases ho.2 with ⟨hu, _⟩ | ⟨k2, cap2, cur2, hu, _, hcur2, _⟩
    · rw [hu] at e; cases e
    · rw [hu] at e; injection e with e; subst e
      rw [hcur] at hcur2
      injection hcur2 with hx; injection hx with _ hx
      exact absurd hx (by decide)
theorem run_app_nil (V : Option Addr) (n c : Nat) (w : World) (ty : TypeId) (hn : n ≤ c) : (Builtin.append_ #[43, 43] ty #[.slice V n c, .slice none 0 0]).run Tryd.prog w = .ok (.slice V n c) w := by
  cases V <;> simp [go_sem, Builtin.append_, hn]
theorem wpList_app_nil {ops : Array Oper} {rest : List Oper} {o : Oper} {a : Act} {w : World} {Q : Exit → Act → World → Prop} (hg : o.guard = none) (s x : Operand) (ho : o.op = .call { callee := .builtin .append, args := #[s, x], argTypes := #[43, 43] })
    (V : Option Addr) (n c : Nat) (hs : a.eval s = .slice V n c) (hx : a.eval x = .slice none 0 0) (hn : n ≤ c) (h : wpList Tryd.prog ops Q rest (a.put o.dst (.slice V n c)) w) : wpList Tryd.prog ops Q (o :: rest) a w :=
  wpList_plain hg fun _ hK => by
    unfold Oper.wp execOp
    simp only [ho, resolve, invoke, builtin, Sem.run_bind, Sem.run_pure, Result.andThen_ok, List.map_toArray, List.map_cons, List.map_nil, hs, hx, run_app_nil V n c w o.type hn]
    exact hK _ _ h
theorem own_get {w : World} {D t sz n c k : Nat} {xs : List Value} (h : w.ownsRow D t sz (.slice (some ⟨k, 0, none⟩) n c) n xs) : ∀ j u, xs[j]? = some u → w.cell? ((⟨k, 0, none⟩ : Addr).add j) = some u := fun j u hj => by
  rcases h.2 with ⟨hv, _⟩ | ⟨k', cap, cur, hv, _, hcur, _, _, _, htk⟩
  · cases hv
  · injection hv with hv _ _
    injection hv with hv
    injection hv with hv
    subst hv
    have e : (⟨k, 0, none⟩ : Addr).add j = ⟨k, j, none⟩ := by simp only [Addr.add]; split <;> simp_all
    rw [e, cell_of_row w k j cur t (0, 0) hcur]
    rw [← htk, List.getElem?_take] at hj
    split at hj
    · simpa using hj
    · cases hj
theorem pcs_one (L : List (Nat × List UInt8)) : ∀ u ∈ pcs L, u.oneCell' = true := by
  intro u hu
  simp only [pcs, List.mem_flatMap, List.mem_cons, List.not_mem_nil, or_false] at hu
  obtain ⟨p, _, h⟩ := hu
  rcases h with rfl | rfl <;> rfl
theorem own_cap {w : World} {D t sz n c : Nat} {V : Option Addr} {xs : List Value} (h : w.ownsRow D t sz (.slice V n c) n xs) : n ≤ c := by
  rcases h.2 with ⟨hv, h0⟩ | ⟨k, cap, cur, hv, _, _, h1, _⟩
  · omega
  · injection hv with _ _ hv
    omega

end Go.Proofs.YtmgifbibhodbbaaDoor

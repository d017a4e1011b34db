/- A byte of a literal; a byte of a line that is too long; what is told. -/
import Derived.Test.YtmgifbibhodbbaaDoorF2
namespace Go.Proofs.YtmgifbibhodbbaaDoor
open Go.RowKit
set_option pp.deepTerms true
set_option pp.maxSteps 100000

theorem one_new (w w1 : World) (n : Nat) (hn : n = w.heap.size) (t : TypeId) (u : Value) (hw : w1 = w.alloc (.cells #[u] t)) : ∀ j x, [u][j]? = some x → w1.cell? ((⟨n, 0, none⟩ : Addr).add j) = some x := by
  subst hn hw
  intro j x hx
  match j, hx with
  | 0, hx =>
    have : x = u := by simpa using hx.symm
    subst this
    exact (Blk.new w t #[x]).cell 0
theorem byteCells_snoc (l : List UInt8) (x : UInt8) : Lib.byteCells (l ++ [x]) = Lib.byteCells l ++ [.int .u8 x.toNat] := by simp [Lib.byteCells]
/-- a slice -/
theorem own_slice {w : World} {B t n k : Nat} {v : Value} {xs : List Value} (h : w.ownsRow B t n v k xs) : ∃ ao m c, v = .slice ao m c := by
  rcases h.2 with ⟨hv, _⟩ | ⟨g, cap, cur, hv, _⟩
  · exact ⟨_, _, _, hv⟩
  · exact ⟨_, _, _, hv⟩

/-- amid a method: the feed's cells, its row, the result's block -/
structure Md (B g : Nat) (w w' : World) (s : List UInt8) (v : Value) (cs : Array Value) (r : Nat) (rc : Array Value) : Prop where
  blk : Blk w' g 68 cs
  own : w'.ownsRow B 5 1 v s.length (Lib.byteCells s)
  res : Blk w' r 70 rc
  fr : Fr g B w w'
  lt : g < B
  le : B ≤ w'.heap.size
  ne : g ≠ r
theorem Md.vne {B g r : Nat} {w w' : World} {s : List UInt8} {v : Value} {cs rc : Array Value} (h : Md B g w w' s v cs r rc) : v.ownBlock ≠ some g := by
  intro e
  have := (h.own.lt g e).1
  have := h.lt
  omega
theorem Md.rne {B g r : Nat} {w w' : World} {s : List UInt8} {v : Value} {cs rc : Array Value} (h : Md B g w w' s v cs r rc) : v.ownBlock ≠ some r := by
  intro e
  have hr := h.res
  rcases h.own.2 with ⟨hv, _⟩ | ⟨k, cap, cur, hv, hk, hcur, _⟩
  · rw [hv] at e; cases e
  · rw [hv] at e; injection e with e; subst e
    have hr' : w'.heap[k]? = some (.cells rc 70 (0, 0)) := hr
    rw [hcur] at hr'
    injection hr' with hr'; injection hr' with _ hr'
    exact absurd hr' (by decide)
theorem Md.set_ {B g r : Nat} {w w' : World} {s : List UInt8} {v : Value} {cs rc : Array Value} (h : Md B g w w' s v cs r rc) (i : Nat) (u : Value) : Md B g w (w'.setCell ⟨g, i, none⟩ u) s v (cs.setIfInBounds i u) r rc :=
  ⟨h.blk.set_ i u, h.own.kept (grown_set1 w' g i u) (by
    cases hv : v.ownBlock with
    | none => left; rfl
    | some k => right; intro e; injection e with e; subst e; exact h.vne hv), h.res.far (p := ⟨g, i, none⟩) h.ne.symm u, h.fr.set_ i u, h.lt, by have := h.le; simpa [World.setCell] using this, h.ne⟩
theorem Md.res_ {B g r : Nat} {w w' : World} {s : List UInt8} {v : Value} {cs rc : Array Value} (h : Md B g w w' s v cs r rc) (hr : w.heap.size ≤ r) (i : Nat) (u : Value) : Md B g w (w'.setCell ⟨r, i, none⟩ u) s v cs r (rc.setIfInBounds i u) := by
  refine ⟨h.blk.far (p := ⟨r, i, none⟩) h.ne u, h.own.kept (grown_set1 w' r i u) ?_, h.res.set_ i u, h.fr.fresh hr u, h.lt, by have := h.le; simpa [World.setCell] using this, h.ne⟩
  cases hv : v.ownBlock with
  | none => left; rfl
  | some k => right; intro e; injection e with e; subst e; exact h.rne hv
/-- at a method's begin: the block of the result -/
theorem Fd.md {B g : Nat} {w : World} {st : FS} {v : Value} (h : Fd B g w st v) : Md B g w (w.alloc (.cells #[.int .i64 0, .string ⟨#[]⟩] 70)) st.s v #[v, .int .i64 st.from_, .int .i64 st.own, .int .i64 st.all, .int .i64 st.left, .int .u8 st.last, fnOf g st.mode] w.heap.size #[.int .i64 0, .string ⟨#[]⟩] := by
  have k := h.below (below_alloc (Below.refl _ _) (.cells #[.int .i64 0, .string ⟨#[]⟩] 70))
  exact ⟨k.blk, k.own, Blk.new w _ _, (Fr.refl g B w).alloc _, k.lt, k.le, by have := h.blk.lt; omega⟩
theorem Md.pre {B g r : Nat} {w w' : World} {s : List UInt8} {v : Value} {cs rc : Array Value} (h : Md B g w w' s v cs r rc) (o : Obj) : (w'.alloc o).ownsRow B 5 1 v s.length (Lib.byteCells s) :=
  h.own.kept (row := none) (grown_of_below (below_alloc (Below.refl _ _) o) none) (by
    cases hv : v.ownBlock with
    | none => left; rfl
    | some k => right; simp)
/-- a byte behind the row; the row is stored -/
theorem Md.more {B g r : Nat} {w w' w2 : World} {s : List UInt8} {v v' : Value} {cs rc : Array Value} (h : Md B g w w' s v cs r rc) (x : UInt8) (o : Obj)
    (hg : (w'.alloc o).grownBy w2 v.ownBlock) (hown : w2.ownsRow B 5 1 v' (s.length + 1) (Lib.byteCells s ++ [.int .u8 x.toNat])) : Md B g w w2 (s ++ [x]) v' cs r rc := by
  have ho := h.pre o
  refine ⟨(h.blk.alloc o).grown hg h.vne, by simpa [byteCells_snoc] using hown, (h.res.alloc o).grown hg h.rne, (h.fr.alloc o).rows hg ho, h.lt, ?_, h.ne⟩
  have h1 := h.le
  have h2 := hg.size
  have h3 := (below_alloc (Below.refl w'.heap.size w') o).size
  omega
/-- a method has ended -/
theorem Md.fd {B g r : Nat} {w w' : World} {s : List UInt8} {v : Value} {cs rc : Array Value} (h : Md B g w w' s v cs r rc) {st : FS} (hs : st.s = s) (hc : cs = #[v, .int .i64 st.from_, .int .i64 st.own, .int .i64 st.all, .int .i64 st.left, .int .u8 st.last, fnOf g st.mode]) : Fd B g w' st v := by
  subst hs hc
  exact ⟨h.blk, h.own, h.lt, h.le⟩
/-- a list as a string, where B is a number's name -/
abbrev bytesOf (l : List UInt8) : ByteArray := B l
/-- what a method answers -/
def Said (B g : Nat) (w : World) (r : FS × Told) (e : Ending) (w' : World) : Prop :=
  e = .returned (.tuple #[match r.2 with | none => .agg #[.int .i64 0, .string ⟨#[]⟩] | some p => .agg #[.int .i64 p.1, .string (bytesOf p.2)], .bool r.2.isSome]) ∧ (∃ v', Fd B g w' r.1 v') ∧ Fr g B w w'

set_option maxHeartbeats 800000 in
set_option maxRecDepth 100000 in
theorem litF_any (B g N : Nat) (st : FS) (v : Value) (x : UInt8) (w : World) (h : Fd B g w st v) (hm : st.mode = 1) (hok : FS.ok N st) (hN : N ≤ 1073741824) :
    Calls Tryd.prog 81 #[.pointer (some ⟨g, 0, none⟩), .int .u8 x.toNat] w (Said B g w (litF st x)) := by
  obtain ⟨i0, hi, hz0, hz1, hz2⟩ := info_parts Tryd.Builder_Extra_169.infoByte
  have hlen := hok.len
  obtain ⟨hl1, hl2, hl3, hl4⟩ := hok.lit hm
  have hg : g < w.heap.size := h.blk.lt
  have hB := h.le
  have c0 : w.cell? ⟨g, 0, none⟩ = some v := h.blk.cell 0
  have H := Lib.hid h.md; clear h
  have HI := Lib.hid hi; clear hi
  clear hok
  go_enter Tryd.func81, Tryd.ntmps81
  go_wp2_with (at_builtin; refine wpList_append_own _ rfl _ _ 39 rfl B 5 i0 (.int .u8 0) 1 1 Tryd.underlying39 HI.out hz0 hz1 hz2 rfl (by decide) v st.s.length (Lib.byteCells st.s) rfl (H.out.pre _) ⟨w.heap.size + 1, 0, none⟩ 1 1 [.int .u8 x.toNat] rfl rfl ?c1 ?c2 ?c3 ?c4 ?c5 ?_)
  case c1 => exact one_new _ _ _ (by simp) 5 _ rfl
  case c2 => intro u hu; simp at hu; subst hu; rfl
  case c3 => unfold maxLen; omega
  case c4 => omega
  case c5 => simp; omega
  intro v' w2 hown hgrow _
  have H2 := Lib.hid (H.out.more x _ hgrow hown)
  obtain ⟨ao, m, c', rfl⟩ := own_slice hown
  clear hgrow hown c0 H HI hz0 hz1 hz2
  repeat (first | go_values | go_guarded | go_step | go_upon)
  have c : w2.cell? ⟨g, 0, none⟩ = some v := H2.out.blk.cell 0
  have f := H2.out.blk.frozen 0
  simp only [c, f, Bool.false_eq_true, if_false]
  have H3 : Hid (Md B g w (w2.setCell ⟨g, 0, none⟩ (.slice ao m c')) (st.s ++ [x]) (.slice ao m c') #[(.slice ao m c'), (.int .i64 st.from_), (.int .i64 st.own), (.int .i64 st.all), (.int .i64 st.left), (.int .u8 st.last), (fnOf g st.mode)] w.heap.size #[.int .i64 0, .string ⟨#[]⟩]) := Lib.hid (H2.out.set_ 0 (.slice ao m c'))
  generalize w2.setCell ⟨g, 0, none⟩ (.slice ao m c') = w3 at H3 ⊢
  clear c f H2
  have d4 : w3.cell? ⟨g, 4, none⟩ = some (.int .i64 st.left) := H3.out.blk.cell 4
  have d6 : w3.cell? ⟨g, 6, none⟩ = some (fnOf g st.mode) := H3.out.blk.cell 6
  have f4 := H3.out.blk.frozen 4
  have f6 := H3.out.blk.frozen 6
  have r0 : w3.cell? ⟨w.heap.size, 0, none⟩ = some (.int .i64 0) := H3.out.res.cell 0
  have r1 : w3.cell? ⟨w.heap.size, 1, none⟩ = some (.string ⟨#[]⟩) := H3.out.res.cell 1
  have e0 := H3.out.res.frozen 0
  have e1 := H3.out.res.frozen 1
  have hgr : g ≠ w.heap.size := by omega
  go_wp2_with fail
  · have h1 : ((st.left : Int) - 1 == 0) = true := by assumption
    have h1' : st.left = 1 := by simp at h1; omega
    have K := (((H3.out.set_ 4 (.int .i64 (st.left - 1))).set_ 6 (.func (.func 50) #[.pointer (some ⟨g, 0, none⟩)] #[])).res_ (Nat.le_refl _) 0 (.int .i64 0)).res_ (Nat.le_refl _) 1 (.string ⟨#[]⟩)
    refine bodyPost_ret (v := .tuple #[.agg #[.int .i64 0, .string ⟨#[]⟩], .bool false]) (by simp [results, Tryd.results81, go_sem, r0, r1]) rfl ⟨rfl, ⟨_, K.fd (st := (litF st x).1) rfl ?_⟩, K.fr⟩
    simp [litF, h1', fnOf]
  · have h1 : ((st.left : Int) - 1 == 0) = false := by assumption
    have h1' : st.left ≠ 1 := by simp at h1; omega
    have K := ((H3.out.set_ 4 (.int .i64 (st.left - 1))).res_ (Nat.le_refl _) 0 (.int .i64 0)).res_ (Nat.le_refl _) 1 (.string ⟨#[]⟩)
    refine bodyPost_ret (v := .tuple #[.agg #[.int .i64 0, .string ⟨#[]⟩], .bool false]) (by simp [results, Tryd.results81, go_sem, r0, r1]) rfl ⟨rfl, ⟨_, K.fd (st := (litF st x).1) rfl ?_⟩, K.fr⟩
    simp [litF, h1']
    omega

end Go.Proofs.YtmgifbibhodbbaaDoor

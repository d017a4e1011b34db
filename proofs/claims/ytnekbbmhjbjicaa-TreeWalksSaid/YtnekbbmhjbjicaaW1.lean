/- Loops over an iterator function, at a program of one goroutine: an iterator that yields just the elements of a list; one law for the loop over it. -/
import Derived.Test.YtnekbbmhjbjicaaA14
import Derived.RangeFuncNested
import Derived.RangeFuncBound
import Derived.RangeFuncLeaves
import Derived.OwnWalkIn
import Derived.TacticsInMore
import Derived.LoopNIn
import Derived.LoopIn
namespace Go.Proofs.Ytnekbbmhjbjicaa
open Go.RowKit

@[go_sem] theorem wide_depth : Fence.wide.depth = none := rfl
@[go_sem] theorem wide_fn (f : FuncId) : Fence.wide.fn f = True := rfl
theorem below_grown {a b : World} (h : a.grownBy b none) : Below a.heap.size a b := ⟨h.os, h.tape, h.output, h.size, fun k hk => h.block k hk (by simp)⟩
theorem own_below {β : Type} {B : Nat} {I : β → World → Prop} (h : OwnFrom B I) {s : β} {W W' : World} (hs : I s W) (hb : Below W.heap.size W W') : I s W' :=
  h s W W' none hs (grown_of_below hb none) (fun r e => by cases e)
theorem own_more {β : Type} {B C : Nat} {I : β → World → Prop} (h : OwnFrom B I) (hc : B ≤ C) : OwnFrom C I := fun s W W' row hs hg hr => h s W W' row hs hg (fun r e => ⟨Nat.le_trans hc (hr r e).1, (hr r e).2⟩)
/-- block k is a row of messages -/
def RowAt (W : World) (k : Nat) : Prop := ∃ cs fr, W.heap[k]? = some (.cells cs 37 fr)
theorem RowAt.same {W W' : World} {k : Nat} (h : W'.heap[k]? = W.heap[k]?) : RowAt W' k ↔ RowAt W k := by unfold RowAt; rw [h]
/-- what lies below n, and what lies from B on and is no row of messages, lies as it lay -/
structure Held (n B : Nat) (W W' : World) : Prop where
  os : W'.os = W.os
  tape : W'.tape = W.tape
  output : W'.output = W.output
  size : W.heap.size ≤ W'.heap.size
  block : ∀ k, k < W.heap.size → k < n ∨ (B ≤ k ∧ ¬ RowAt W k) → W'.heap[k]? = W.heap[k]?
theorem Held.refl (n B : Nat) (W : World) : Held n B W W := ⟨rfl, rfl, rfl, Nat.le_refl _, fun _ _ _ => rfl⟩
theorem Held.trans {n B : Nat} {X Y Z : World} (h : Held n B X Y) (k : Held n B Y Z) : Held n B X Z :=
  ⟨k.os.trans h.os, k.tape.trans h.tape, k.output.trans h.output, Nat.le_trans h.size k.size, fun j hj hc => by
    have e := h.block j hj hc
    exact (k.block j (Nat.lt_of_lt_of_le hj h.size) (hc.imp id (fun ⟨h1, h2⟩ => ⟨h1, fun h3 => h2 ((RowAt.same e).1 h3)⟩))).trans e⟩
theorem Held.of_below {n B : Nat} {W W' : World} (h : Below W.heap.size W W') : Held n B W W' := ⟨h.os, h.tape, h.output, h.size, fun k hk _ => h.block k hk⟩
theorem Held.then {n B : Nat} {A W W' : World} (h : Held n B A W) (k : Below W.heap.size W W') : Held n B A W' := h.trans (.of_below k)
theorem Held.alloc {n B : Nat} {A W : World} (h : Held n B A W) (o : Obj) : Held n B A (W.alloc o) := h.then (below_alloc (Below.refl _ _) o)
theorem Held.grown {n B g : Nat} {A W W' : World} (h : Held n B A W) (hg : W.grownBy W' (some g)) (h1 : n ≤ g) (h2 : g < B ∨ RowAt W g) : Held n B A W' :=
  h.trans ⟨hg.os, hg.tape, hg.output, hg.size, fun k hk hc => hg.block k hk (fun e => by
    injection e with e
    subst e
    rcases hc with hc | ⟨hc, hr⟩
    · omega
    · rcases h2 with h2 | h2
      · omega
      · exact hr h2)⟩
theorem Held.set_ {n B : Nat} {A W : World} (h : Held n B A W) {p : Addr} (h1 : n ≤ p.block) (h2 : p.block < B) (v : Value) : Held n B A (W.setCell p v) :=
  h.grown (g := p.block) ⟨rfl, rfl, rfl, by simp [World.setCell], fun k _ hk => Below.heap_setCell W p v k (fun e => hk (by rw [e]))⟩ h1 (.inl h2)
theorem Held.put {n B : Nat} {A W : World} (h : Held n B A W) {l : Nat} (h1 : n ≤ l) (h2 : l < B) (o : Obj) : Held n B A (W.putObj l o) := h.grown (grownBy_putObj' W l o) h1 (.inl h2)
theorem Held.less {n n' B B' : Nat} {W W' : World} (h : Held n B W W') (hn : n' ≤ n) (hB : B ≤ B') : Held n' B' W W' := ⟨h.os, h.tape, h.output, h.size, fun k hk hc => h.block k hk (hc.imp (by omega) (fun ⟨h1, h2⟩ => ⟨by omega, h2⟩))⟩
theorem Held.below {n B : Nat} {W W' : World} (h : Held n B W W') (hn : n ≤ W.heap.size) : Below n W W' := ⟨h.os, h.tape, h.output, h.size, fun k hk => h.block k (by omega) (.inl hk)⟩
theorem Held.blk {n B : Nat} {W W' : World} (h : Held n B W W') {g : Nat} {t : TypeId} {cs : Array Value} (hg : Blk W g t cs) (hc : g < n ∨ B ≤ g) (ht : t ≠ 37 := by decide) : Blk W' g t cs :=
  (h.block g hg.lt (hc.imp id (fun h1 => ⟨h1, fun ⟨cs', fr, h2⟩ => by rw [show W.heap[g]? = _ from hg] at h2; injection h2 with h2; injection h2 with _ h2; exact ht h2⟩))).trans hg
theorem Held.obj {n B : Nat} {W W' : World} (h : Held n B W W') {l : Nat} {o : Obj} (hl : W.heap[l]? = some o) (hc : l < n ∨ B ≤ l) (ho : o.isCells = false) : W'.heap[l]? = some o :=
  (h.block l (Array.getElem?_eq_some_iff.1 hl).1 (hc.imp id (fun h1 => ⟨h1, fun ⟨cs', fr, h2⟩ => by rw [hl] at h2; injection h2 with h2; subst h2; cases ho⟩))).trans hl
theorem blk_put {W : World} {l g : Nat} {o o' : Obj} {t : TypeId} {cs : Array Value} (hl : W.heap[l]? = some o) (ho : o.isCells = false) (h : Blk W g t cs) : Blk (W.putObj l o') g t cs := by
  refine (World.putObj_heap_other (fun e => ?_)).trans h
  subst e
  rw [show W.heap[g]? = _ from h] at hl
  injection hl with hl
  subst hl
  cases ho

/-- g, with lb bound to it, yields just xs, whatever each round does that leaves alone what lies below n₀ -/
def Gives {α : Type} (g : Nat) (lb : Array Value) (encs : α → Array Value) (xs : List α) (n₀ : Nat) (w : World) : Prop :=
  ∀ (l : Nat) (J Jx : Nat → World → Prop) (W : World), Below w.heap.size w W → OwnFrom W.heap.size J → OwnFrom W.heap.size Jx →
    (∀ (k : Nat) (x : α) (W1 : World), xs[k]? = some x → J k W1 → YieldAt Fence.wide 0 Try.prog l (encs x) W1 fun e W' =>
      (e = .returned (.bool true) ∧ J (k + 1) W' ∧ Held n₀ W.heap.size W1 W') ∨ (e = .returned (.bool false) ∧ Jx (k + 1) W' ∧ Held n₀ W.heap.size W1 W')) →
    J 0 W →
    CallsIn Fence.wide 0 Try.prog g (#[.func (.yield l) #[] #[]] ++ lb) W fun e W' => (∃ v, e = .returned v) ∧ (J xs.length W' ∨ ∃ k, k < xs.length ∧ Jx (k + 1) W')

/-- how a round's body may be left -/
def rpost (B n₀ k : Nat) (I : Nat → World → Prop) (Ix : Code → Nat → World → Prop) (W : World) : Exit → Act → World → Prop
  | .normal, _, W' => Held n₀ B W W' ∧ I (k + 1) W'
  | .ret, _, W' => Held n₀ B W W' ∧ Ix .ret (k + 1) W'
  | .exit id, _, W' => Held n₀ B W W' ∧ Ix (.exit id) (k + 1) W'
  | _, _, _ => False

theorem wp_range {α : Type} {g : Operand} {ps : Array Tmp} {assign body : Code} {Q : Exit → Act → World → Prop} {a : Act} {w : World} {gf : Nat} {lb : Array Value} {encs : α → Array Value} {xs : List α} {n₀ : Nat}
    (hg : a.eval g = .func (.func gf) #[] lb) (eg : ∀ args w, (callFunc gf args).run Try.prog w = .ok (.enter gf args) w) (hseq : Gives gf lb encs xs n₀ w) (hn : n₀ ≤ w.heap.size) (hps : ∀ x, (encs x).size = ps.size)
    (I : Nat → World → Prop) (Ix : Code → Nat → World → Prop) (hI : OwnFrom w.heap.size I) (hIx : ∀ c, OwnFrom w.heap.size (Ix c)) (h0 : I 0 w)
    (hround : ∀ (l k : Nat) (x : α) (W : World), w.heap.size ≤ l → xs[k]? = some x → I k W →
      assign.wpIn (Fence.wide.inRound l) 0 Try.prog (Exit.then (fun a' W' => Held n₀ w.heap.size W W' ∧ I k W' ∧
        ∀ Wb, (∀ g t cs, Blk W' g t cs → Blk Wb g t cs) → Wb.heap.size = W'.heap.size → I k Wb → body.wpIn (Fence.wide.inRound l) 0 Try.prog (rpost w.heap.size n₀ k I Ix Wb) a' Wb) (fun _ _ _ => False))
        { tmps := (ps.zip (encs x)).foldl (fun t (p, v) => t.setIfInBounds p v) a.tmps, defers := [] } W)
    (hdone : ∀ (D : Nat) (W : World), w.heap.size ≤ D → I xs.length W → W.heap[D]? = some (.deferred (some [])) → Q .normal { a with defers := { target := .collected D, args := #[] } :: a.defers } W)
    (hstop : ∀ (D : Nat) (c : Code) (k : Nat) (W : World), w.heap.size ≤ D → k < xs.length → Ix c (k + 1) W → W.heap[D]? = some (.deferred (some [])) → c.wp Try.prog Q { a with defers := { target := .collected D, args := #[] } :: a.defers } W) :
    (Code.rangeFunc g ps assign body).wp Try.prog Q a w := by
  refine wpIn_wide (n := 0).1 (wpIn_rangeFunc ?_)
  intro fn _
  let R : LoopState → Option Code → Obj := fun s p => .loop { state := s, pending := p, fn, tmps := a.tmps, params := ps, assign, body, defers := w.heap.size }
  have hR : ∀ s p, R s p = .loop { state := s, pending := p, fn, tmps := a.tmps, params := ps, assign, body, defers := w.heap.size } := fun _ _ => rfl
  have hRc : ∀ s p, (R s p).isCells = false := fun _ _ => rfl
  generalize R = R at hR hRc
  obtain ⟨W1, hW1⟩ : ∃ W1, (w.alloc (.deferred (some []))).alloc (R .ready none) = W1 := ⟨_, rfl⟩
  have hL1 : W1.heap[w.heap.size + 1]? = some (R .ready none) := by
    have := World.alloc_heap_new (w.alloc (.deferred (some []))) (R .ready none)
    rwa [World.size_alloc, hW1] at this
  have hK1 : W1.heap[w.heap.size]? = some (.deferred (some [])) := by
    rw [← hW1]; exact (Below.heap_alloc _ _ _ (by simp)).trans (World.alloc_heap_new w _)
  have hs1 : W1.heap.size = w.heap.size + 2 := by rw [← hW1]; simp
  have hb1 : Below w.heap.size w W1 := by rw [← hW1]; exact below_alloc (below_alloc (Below.refl _ _) _) _
  refine ⟨w.heap.size + 1, [{ target := .collected w.heap.size, args := #[] }], W1, { target := .fn (.func gf) lb, args := #[.func (.yield (w.heap.size + 1)) #[] #[]] }, W1, gf,
    #[.func (.yield (w.heap.size + 1)) #[] #[]] ++ lb, W1, ?_, ?_, fun _ _ => trivial, ?_, fun h => (by cases h), ?_⟩
  · rw [← hW1, hR]; exact run_enterLoop_outer _ _ _ _ _
  · simp only [resolve, hg]
    simp [go_sem]
  · simp [invoke, go_sem, eg]
  · -- what is said beside I: the record stands, and the block for deferred calls
    have hbook : ∀ (s : LoopState) (p : Option Code) (I' : Nat → World → Prop), OwnFrom w.heap.size I' → OwnFrom W1.heap.size (fun k W => I' k W ∧ W.heap[w.heap.size + 1]? = some (R s p) ∧ W.heap[w.heap.size]? = some (.deferred (some []))) := by
      intro s p I' hI' k A B row hs hg' hr
      have hne : ∀ j, j < W1.heap.size → some j ≠ row := fun j hj e => by have := (hr j e.symm).1; omega
      refine ⟨hI' k A B row hs.1 hg' (fun r e => ⟨by have := (hr r e).1; omega, (hr r e).2⟩), ?_, ?_⟩
      · exact (hg'.block _ (Array.getElem?_eq_some_iff.1 hs.2.1).1 (hne _ (by omega))).trans hs.2.1
      · exact (hg'.block _ (Array.getElem?_eq_some_iff.1 hs.2.2).1 (hne _ (by omega))).trans hs.2.2
    refine (hseq (w.heap.size + 1)
      (fun k W => I k W ∧ W.heap[w.heap.size + 1]? = some (R .ready none) ∧ W.heap[w.heap.size]? = some (.deferred (some [])))
      (fun k W => ∃ c, Ix c k W ∧ W.heap[w.heap.size + 1]? = some (R .done (some c)) ∧ W.heap[w.heap.size]? = some (.deferred (some [])))
      W1 hb1 (hbook _ _ I hI)
      (fun k A B row hs hg' hr => by obtain ⟨c, hc⟩ := hs; exact ⟨c, hbook _ _ (Ix c) (hIx c) k A B row hc hg' hr⟩)
      ?_ ⟨own_below hI h0 hb1, hL1, hK1⟩).mono ?_
    · rintro k x W hx ⟨hi, hl, hk⟩
      have hy := run_yield (P := Try.prog) (args := encs x) (by rw [hl, hR]) (hps x)
      refine ⟨fn, _, assign, body, hy, roundIn_of_wpIn trivial (wpIn_mono (hround (w.heap.size + 1) k x W (by omega) hx hi) ?_)⟩
      rintro (_ | _ | _ | _ | _ | _) a' W' hq <;> first | exact hq.elim | skip
      obtain ⟨hk1, hi1, hbody⟩ := hq
      have hl' := hk1.obj hl (.inr (by omega)) (hRc _ _)
      have hk' := hk1.obj hk (.inr (Nat.le_refl _)) rfl
      have hlt := (Array.getElem?_eq_some_iff.1 hl').1
      refine ⟨W'.putObj (w.heap.size + 1) (R .busy none), by rw [hR]; exact run_beginRound (by rw [hl', hR]) rfl, ?_⟩
      have hl2 : (W'.putObj (w.heap.size + 1) (R .busy none)).heap[w.heap.size + 1]? = some (R .busy none) := World.putObj_heap_same hlt
      have hk2 : (W'.putObj (w.heap.size + 1) (R .busy none)).heap[w.heap.size]? = some (.deferred (some [])) := (World.putObj_heap_other (by omega)).trans hk'
      refine wpIn_mono (hbody _ (fun g t cs h => blk_put hl' (hRc _ _) h) (by simp) (hI.putObj _ hi1 (by omega) hl' (hRc _ _))) ?_
      have fin : ∀ (jump : Option Code) (W3 : World), Held n₀ w.heap.size (W'.putObj (w.heap.size + 1) (R .busy none)) W3 →
          (Instr.endRound (w.heap.size + 1) jump).run Try.prog W3 = .ok (.bool jump.isNone) (W3.putObj (w.heap.size + 1) (R (if jump.isNone then .ready else .done) jump)) ∧
          W3.heap[w.heap.size + 1]? = some (R .busy none) ∧
          (W3.putObj (w.heap.size + 1) (R (if jump.isNone then .ready else .done) jump)).heap[w.heap.size + 1]? = some (R (if jump.isNone then .ready else .done) jump) ∧
          (W3.putObj (w.heap.size + 1) (R (if jump.isNone then .ready else .done) jump)).heap[w.heap.size]? = some (.deferred (some [])) := fun jump W3 hk3 => by
        have hl3 := hk3.obj hl2 (.inr (by omega)) (hRc _ _)
        refine ⟨?_, hl3, World.putObj_heap_same (Array.getElem?_eq_some_iff.1 hl3).1, (World.putObj_heap_other (by omega)).trans (hk3.obj hk2 (.inr (Nat.le_refl _)) rfl)⟩
        have := run_endRound (P := Try.prog) jump (by rw [hl3, hR])
        rw [this, hR]
      rintro (_ | _ | id | t | _ | _) a3 W3 hp
      · obtain ⟨hk3, hi3⟩ := hp
        obtain ⟨hr, hl3, hl4, hk4⟩ := fin none W3 hk3
        exact ⟨_, _, hr, .inl ⟨rfl, ⟨hI.putObj _ hi3 (by omega) hl3 (hRc _ _), hl4, hk4⟩, (((hk1.less (Nat.le_refl _) (by omega)).put (by omega) (by omega) _).trans (hk3.less (Nat.le_refl _) (by omega))).put (by omega) (by omega) _⟩⟩
      all_goals first | exact hp.elim | skip
      all_goals
        obtain ⟨hk3, hi3⟩ := hp
        obtain ⟨hr, hl3, hl4, hk4⟩ := fin (some _) W3 hk3
        exact ⟨_, _, hr, .inr ⟨rfl, ⟨_, (hIx _).putObj _ hi3 (by omega) hl3 (hRc _ _), hl4, hk4⟩, (((hk1.less (Nat.le_refl _) (by omega)).put (by omega) (by omega) _).trans (hk3.less (Nat.le_refl _) (by omega))).put (by omega) (by omega) _⟩⟩
    · rintro e W2 ⟨⟨v, rfl⟩, (⟨hi, hl, hk⟩ | ⟨k, hlt, c, hi, hl, hk⟩)⟩
      · have hend := run_endLoop (P := Try.prog) (w := W2) (by rw [hl, hR]) (by simp)
        refine ⟨none, _, hend, hdone _ _ (Nat.le_refl _) (hI.putObj _ hi (by omega) hl (hRc _ _)) ((World.putObj_heap_other (by omega)).trans hk)⟩
      · have hend := run_endLoop (P := Try.prog) (w := W2) (by rw [hl, hR]) (by simp)
        refine ⟨some c, _, hend, wpIn_wide.2 (hstop _ c k _ (Nat.le_refl _) hlt ((hIx c).putObj _ hi (by omega) hl (hRc _ _)) ((World.putObj_heap_other (by omega)).trans hk))⟩

/-- a contract within a round -/
theorem calls_in {F : Fence} (hF : F = Fence.wide ∨ ∃ l, F = Fence.wide.inRound l) {n f : Nat} {args : Array Value} {w : World} {R : Ending → World → Prop} (h : Calls Try.prog f args w R) : CallsIn F n Try.prog f args w R := by
  rcases hF with rfl | ⟨l, rfl⟩
  · exact callsIn_wide.2 h
  · exact CallsIn.inRound l (callsIn_wide.2 h)
theorem of_callsIn {n f : Nat} {args : Array Value} {w : World} {R : Ending → World → Prop} (h : CallsIn Fence.wide n Try.prog f args w R) : Calls Try.prog f args w R := callsIn_wide.1 h

/-- a round, wherever yield is called -/
theorem Yields.room {m m' l : Nat} {args : Array Value} {W : World} {R : Ending → World → Prop} (h : YieldAt Fence.wide m Try.prog l args W R) : YieldAt Fence.wide m' Try.prog l args W R := by
  obtain ⟨fn, tmps, assign, body, hy, h1, h2⟩ := h
  exact ⟨fn, tmps, assign, body, hy, h1, fun c cs _ => h2 c cs (room_wide _)⟩
end Go.Proofs.Ytnekbbmhjbjicaa

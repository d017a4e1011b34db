/- Regions that draw their order, within a loop over an iterator. -/
import Derived.Test.YtnekbbmhjbjicaaW5
import Derived.Deep.RegionHeld3
import Derived.OrdersIn
namespace Go.Proofs.Ytnekbbmhjbjicaa
open Go.RowKit

def noDefer (ops : Array Oper) : Bool := ops.all (fun o => match o.op with | .defer _ => false | _ => true)
theorem noDefer_get {ops : Array Oper} (h : noDefer ops = true) {i : Nat} {o : Oper} (hi : ops[i]? = some o) : ∀ c, o.op ≠ .defer c := by
  intro c e
  unfold noDefer at h
  rw [Array.all_eq_true_iff_forall_mem] at h
  have := h o (Array.mem_of_getElem? hi)
  rw [e] at this
  cases this

section
variable {ops : Array Oper} {Q : Exit → Act → World → Prop} {F : Fence} {n : Nat} {C S : World → Prop} {md : Region.Mode}

theorem wpOpIn_of (hF : Wide F) (hd : noDefer ops = true) {i : Nat} {a : Act} {w : World} {K : Act → World → Prop}
    (h : match ops[i]? with | none => K a w | some o => if Region.wanted o (yielded ops a.tmps) then o.wp Try.prog a w K Q else K (a.put o.dst undef) w) : wpOpIn F n Try.prog ops Q i K a w := by
  unfold wpOpIn
  cases ho : ops[i]? with
  | none => rw [ho] at h; exact h
  | some o =>
    rw [ho] at h
    simp only at h ⊢
    by_cases hw : Region.wanted o (yielded ops a.tmps) = true
    · rw [if_pos hw] at h ⊢
      exact wpIn_of_wp hF (noDefer_get hd ho) h
    · rw [if_neg hw] at h ⊢
      exact ⟨fun f _ => hF.fn f, h⟩

theorem wpAnyIn_of_quiet (hF : Wide F) (hd : noDefer ops = true) {Q' : Act → Prop} (hQ : ∀ a w, C w → Q' a → Q .normal a w) : ∀ (fuel : Nat) (listed : Array Bool) (a : Act) (w : World), C w →
    wpAnyQ Try.prog md ops C Q' fuel listed a → wpAnyIn F n Try.prog md ops Q fuel listed a w
  | 0, _, _, _, hw, h => ⟨h.1, hQ _ _ hw h.2⟩
  | fuel + 1, _, a, w, hw, h => ⟨fun h0 => hQ _ _ hw (h.1 h0), fun i hi => wpOpIn_of hF hd (by
      have h2 := h.2 i hi
      unfold qOp at h2
      cases ho : ops[i]? with
      | none => rw [ho] at h2; exact wpAnyIn_of_quiet hF hd hQ fuel _ _ _ hw h2
      | some o =>
        rw [ho] at h2
        simp only at h2 ⊢
        by_cases hwd : Region.wanted o (yielded ops a.tmps) = true
        · rw [if_pos hwd] at h2 ⊢
          exact Oper.wp_of_quiet hw (fun a' w' hw' => wpAnyIn_of_quiet hF hd hQ fuel _ a' w' hw') h2
        · rw [if_neg hwd] at h2 ⊢
          exact wpAnyIn_of_quiet hF hd hQ fuel _ _ _ hw h2)⟩

theorem mixed : Try.prog.follows .mixedOrders = true := by kernel_rfl

theorem wpIn_region_quiet {id : Nat} {a : Act} {w : World} {l : List Oper} (C : World → Prop) (hF : Wide F) (hd : noDefer l.toArray = true) (hB : Region.lexB .any l.toArray = true) (hC : C w.drew)
    (h : wpQuiet Try.prog l.toArray C (fun a' => ∀ w', C w' → Q .normal a' w') l a) : (Code.region id l.toArray true).wpIn F n Try.prog Q a w := by
  simp only [Region.lexB, Bool.and_eq_true] at hB
  refine wpIn_region_any mixed (wpAnyIn_of_quiet (Q' := fun a' => ∀ w', C w' → Q .normal a' w') hF hd (fun _ w' hw' h => h w' hw') _ _ _ _ hC ?_)
  have := wpAnyQ_lex (C := C) (md := .any) hB.1 l 0 (Array.replicate l.length false) a (by simp) (by simpa using hB.2) h
  simpa using this

theorem wpAnyIn_of_held (hF : Wide F) (hd : noDefer ops = true) (hno : ¬ LetsOut Q) : ∀ (fuel : Nat) (listed : Array Bool) (a : Act) (w : World), wpAnyH Try.prog md ops Q S fuel listed a w → wpAnyIn F n Try.prog md ops Q fuel listed a w
  | 0, _, _, _, h => h
  | fuel + 1, _, a, w, h => ⟨h.1, fun i hi => wpOpIn_of hF hd (by
      have h2 := wpOp_mono (fun a' w' h' => wpAnyIn_of_held hF hd hno fuel _ a' w' h'.2) (h.2 i hi)
      unfold wpOp at h2
      cases ho : ops[i]? with
      | none => rw [ho] at h2; exact h2
      | some o =>
        rw [ho] at h2
        simp only at h2 ⊢
        by_cases hwd : Region.wanted o (yielded ops a.tmps) = true
        · rw [if_pos hwd] at h2 ⊢
          exact h2.resolve_right (fun h => hno h.2)
        · rw [if_neg hwd] at h2 ⊢
          exact h2)⟩

theorem wpIn_region_held {id : Nat} {a : Act} {w : World} {l : List Oper} (S : World → Prop) (hF : Wide F) (hd : noDefer l.toArray = true) (hno : ¬ LetsOut Q)
    (h : wpAnyH Try.prog .any l.toArray Q S l.length (Array.replicate l.length false) a w.drew) : (Code.region id l.toArray true).wpIn F n Try.prog Q a w :=
  wpIn_region_any mixed (by simpa using wpAnyIn_of_held hF hd hno _ _ _ _ h)

section
variable {o : Oper} {a : Act} {w : World} {listed : Array Bool} {fuel : Nat}
/-- one operation alone may come up -/
theorem anyIn1 (hF : Wide F) (i : Nat) (listed' : Array Bool) (hli : listed.setIfInBounds i true = listed') (hr : Region.ready md ops listed = [i]) (ho : ops[i]? = some o) (hg : o.guard = none) (hd : ∀ c, o.op ≠ .defer c)
    (h : ∀ K : Act → World → Prop, (∀ a w, wpAnyIn F n Try.prog md ops Q fuel listed' a w → K a w) → o.wp Try.prog a w K Q) : wpAnyIn F n Try.prog md ops Q (fuel + 1) listed a w := by
  subst hli
  exact wpAnyIn_ready hr (by simp) (AllReadyIn.cons ho (fun K hK => by
      have hw : Region.wanted o (yielded ops a.tmps) = true := by unfold Region.wanted; rw [hg]
      rw [if_pos hw]; exact wpIn_of_wp hF hd (h K hK)) AllReadyIn.nil)
/-- two may -/
theorem anyIn2 {o' : Oper} (hF : Wide F) (i j : Nat) (li lj : Array Bool) (hli : listed.setIfInBounds i true = li) (hlj : listed.setIfInBounds j true = lj) (hr : Region.ready md ops listed = [i, j]) (ho : ops[i]? = some o) (hg : o.guard = none) (hd : ∀ c, o.op ≠ .defer c) (ho' : ops[j]? = some o') (hg' : o'.guard = none) (hd' : ∀ c, o'.op ≠ .defer c)
    (h : ∀ K : Act → World → Prop, (∀ a w, wpAnyIn F n Try.prog md ops Q fuel li a w → K a w) → o.wp Try.prog a w K Q)
    (h' : ∀ K : Act → World → Prop, (∀ a w, wpAnyIn F n Try.prog md ops Q fuel lj a w → K a w) → o'.wp Try.prog a w K Q) : wpAnyIn F n Try.prog md ops Q (fuel + 1) listed a w := by
  subst hli hlj
  exact wpAnyIn_ready hr (by simp) (AllReadyIn.cons ho (fun K hK => by
      have hw : Region.wanted o (yielded ops a.tmps) = true := by unfold Region.wanted; rw [hg]
      rw [if_pos hw]; exact wpIn_of_wp hF hd (h K hK)) (AllReadyIn.cons ho' (fun K hK => by
      have hw : Region.wanted o' (yielded ops a.tmps) = true := by unfold Region.wanted; rw [hg']
      rw [if_pos hw]; exact wpIn_of_wp hF hd' (h' K hK)) AllReadyIn.nil))

/-! single operations -/
theorem wp_ld22 {K : Act → World → Prop} {b : Nat} {V : Option Addr} {k c : Nat} (x : Operand) (ho : o.op = .load 22 x) (hx : a.eval x = .pointer (some ⟨b, 0, none⟩)) (hb : Blk w b 22 #[.slice V k c]) (h : K (a.put o.dst (.slice V k c)) w) : o.wp Try.prog a w K Q := by
  have c0 : w.cell? ⟨b, 0, none⟩ = some (.slice V k c) := hb.cell 0
  unfold Oper.wp execOp
  rw [ho]
  simp only [hx]
  simpa [go_sem, c0] using h
theorem wp_ld33 {K : Act → World → Prop} {b : Nat} {u f : Int} {t : ByteArray} (x : Operand) (ho : o.op = .load 33 x) (hx : a.eval x = .pointer (some ⟨b, 0, none⟩)) (hb : Blk w b 33 #[.int .u32 u, .int .u8 f, .string t]) (h : K (a.put o.dst (.agg #[.int .u32 u, .int .u8 f, .string t])) w) : o.wp Try.prog a w K Q := by
  obtain ⟨c0, c1, c2, _⟩ := hb.three
  unfold Oper.wp execOp
  rw [ho]
  simp only [hx]
  simpa [go_sem, c0, c1, c2] using h
theorem wp_st22 {K : Act → World → Prop} {b : Nat} {v v' : Value} (x y : Operand) (ho : o.op = .store 22 x y) (hx : a.eval x = .pointer (some ⟨b, 0, none⟩)) (hy : a.eval y = v) (h1 : v.oneCell' = true) (hv : ∃ V k c, v = .slice V k c) (hb : Blk w b 22 #[v']) (h : K (a.put o.dst undef) (w.setCell ⟨b, 0, none⟩ v)) : o.wp Try.prog a w K Q := by
  obtain ⟨V, k, c, rfl⟩ := hv
  have c0 : w.cell? ⟨b, 0, none⟩ = some v' := hb.cell 0
  have f0 : w.frozen? ⟨b, 0, none⟩ = false := hb.frozen 0
  unfold Oper.wp execOp
  rw [ho]
  simp only [hx, hy]
  simpa [go_sem, c0, f0] using h
theorem wp_back {K : Act → World → Prop} {u f : Int} {t : ByteArray} (x : Operand) (tys : Array TypeId) (ho : o.op = .call { callee := .value (.func 14), args := #[x], argTypes := tys }) (hx : a.eval x = .agg #[.int .u32 u, .int .u8 f, .string t])
    (h : ∀ w', Below w.heap.size w w' → K (a.put o.dst (.agg #[.int .u32 u, .int .u8 f, .string t])) w') : o.wp Try.prog a w K Q := by
  have e := Go.Proofs.enters_of Try.func14 (by kernel_rfl) rfl
  unfold Oper.wp execOp
  rw [ho]
  have hf : a.eval (.func 14) = .func (.func 14) #[] #[] := rfl
  simp only [resolve, invoke, Sem.run_bind, List.map_toArray, List.map_cons, List.map_nil, hx, hf, Deferred.ofValue, Sem.run_pure, Result.andThen_ok, e _ _]
  exact (back_any u f t w).mono fun e w' ⟨he, hb⟩ => by subst he; exact h w' hb
/-- []Rec{r} -/
theorem run_one37 (u f : Int) (t : ByteArray) (w : World) : (Instr.buildSlice 22 1 #[(0, .agg #[.int .u32 u, .int .u8 f, .string t])]).run Try.prog w = .ok (.slice (some ⟨w.heap.size, 0, none⟩) 1 1) (w.alloc (.cells #[.int .u32 u, .int .u8 f, .string t] 37)) := by kernel_rfl
theorem wp_one37 {K : Act → World → Prop} {u f : Int} {t : ByteArray} (x : Operand) (ho : o.op = .buildSlice 22 1 #[(0, x)]) (hx : a.eval x = .agg #[.int .u32 u, .int .u8 f, .string t])
    (h : K (a.put o.dst (.slice (some ⟨w.heap.size, 0, none⟩) 1 1)) (w.alloc (.cells #[.int .u32 u, .int .u8 f, .string t] 37))) : o.wp Try.prog a w K Q := by
  unfold Oper.wp execOp
  simp only [ho, hx, List.map_toArray, List.map_cons, List.map_nil, Sem.run_bind, run_one37, Result.andThen_ok, Sem.run_pure]
  exact h
/-- append of the elements of a block that was just made -/
theorem wp_app {t e size bytes : Nat} (H : ElemT t e size bytes) {cs : Array Value} {m c : Nat} {K : Act → World → Prop} (s x : Operand) (ho : o.op = .call { callee := .builtin .append, args := #[s, x], argTypes := #[t, t] })
    (base : Nat) (V : Option Addr) (n vc : Nat) (xs : List Value) (hs : a.eval s = .slice V n vc) (hown : w.ownsRow base e size (.slice V n vc) n xs)
    (hx : a.eval x = .slice (some ⟨w.heap.size, 0, none⟩) m c) (hl : cs.size = m * size) (h1 : cs.all (·.oneCell') = true)
    (hm : n + m ≤ 1000000) (hb : bytes ≤ 1000000) (hbase : base ≤ w.heap.size)
    (h : ∀ V' c' w', w'.ownsRow base e size (.slice V' (n + m) c') (n + m) (xs ++ cs.toList) → w.grownBy w' (ob V) → (∀ g, ob V' = some g → ob V = some g ∨ w.heap.size ≤ g) →
      K (a.put o.dst (.slice V' (n + m) c')) w') : o.wp Try.prog a (w.alloc (.cells cs e)) K Q := by
  obtain ⟨hu, hpos, i, z, hi, hz, hsz, hby, hzs⟩ := H
  have hbytes : (n + m) * bytes ≤ 140737488355328 := by
    have := Nat.mul_le_mul hm hb
    omega
  obtain ⟨v', w', hrun, h2, h3, _, h5⟩ := run_append_own_at (P := Try.prog) (w.alloc (.cells cs e)) base t o.type e i z size bytes hu hi hz hsz hby hzs hpos _ n xs (hown.alloc _)
    ⟨w.heap.size, 0, none⟩ m c cs.toList (by simpa using hl) (World.news_of_block (heap_alloc_new w _)) (fun u hu => Array.all_eq_true_iff_forall_mem.1 h1 u (by simpa using hu))
    (by unfold maxLen; omega) hbytes (by simp; omega)
  unfold Oper.wp execOp
  simp only [ho, resolve, invoke, builtin, Sem.run_bind, Sem.run_pure, Result.andThen_ok, List.map_toArray, List.map_cons, List.map_nil, hs, hx, hrun]
  obtain ⟨V', c', rfl⟩ := own_form h2
  rw [ob_slice] at h3 h5
  rw [ob_slice] at h5
  refine h V' c' w' h2 ⟨h3.os, h3.tape, h3.output, ?_, fun k hk hne => ?_⟩ ?_
  · have := h3.size; simp at this; omega
  · exact (h3.block k (by simp; omega) hne).trans (Below.heap_alloc w _ k hk)
  · intro g hgv
    rcases h5 with h5 | h5
    · exact .inl (h5 ▸ hgv)
    · rw [h5] at hgv
      injection hgv with hgv
      right
      simp at hgv
      omega
end
end
end Go.Proofs.Ytnekbbmhjbjicaa

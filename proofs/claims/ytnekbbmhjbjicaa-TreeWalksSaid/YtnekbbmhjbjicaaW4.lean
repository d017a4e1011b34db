/- Slots and Walk, and what the functions yield that they hand back. -/
import Derived.Test.YtnekbbmhjbjicaaW3
namespace Go.Proofs.Ytnekbbmhjbjicaa
open Go.RowKit
attribute [local go_sem] Oper.semAt_some

abbrev encS : Int × Nd → Array Value := fun x => #[.int .i64 x.1, .agg x.2.cells]

set_option maxRecDepth 100000 in
theorem slotsF_any (root h : Int) (d : TypeId) (v : Value) (w : World) : Calls Try.prog 24 #[.agg #[.int .i64 root, .int .i64 h], .iface d v] w fun e w' =>
    e = .returned (.func (.func 44) #[] #[.pointer (some ⟨w.heap.size + 1, 0, none⟩), .pointer (some ⟨w.heap.size, 0, none⟩)]) ∧ w' = (w.alloc (.cells #[.int .i64 root, .int .i64 h] 28)).alloc (.cells #[.iface d v] 104) := by
  go_enter Try.func24, Try.ntmps24
  go_wp2_with fail
  go_ret
  exact ⟨rfl, rfl⟩

set_option maxRecDepth 100000 in
theorem walkF_any (root h : Int) (d : TypeId) (v : Value) (w : World) : Calls Try.prog 25 #[.agg #[.int .i64 root, .int .i64 h], .iface d v] w fun e w' =>
    e = .returned (.func (.func 46) #[] #[.pointer (some ⟨w.heap.size, 0, none⟩), .pointer (some ⟨w.heap.size + 1, 0, none⟩)]) ∧ w' = (w.alloc (.cells #[.int .i64 root, .int .i64 h] 28)).alloc (.cells #[.iface d v] 104) := by
  go_enter Try.func25, Try.ntmps25
  go_wp2_with fail
  go_ret
  exact ⟨rfl, rfl⟩

set_option maxRecDepth 100000 in
set_option maxHeartbeats 1000000 in
theorem slots1_gives {d : TypeId} {v : Value} {st : St} {B : Nat} {Inv : World → Prop} (hs : IsStore (.iface d v) st B Inv) (hneg : ∀ s, s < 0 → st s = none) (n₀ : Nat) (hB : B ≤ n₀) (w : World) (hn : n₀ ≤ w.heap.size) (bs bt r : Nat) (root h : Int)
    (hbs : Blk w bs 104 #[.iface d v]) (hbt : Blk w bt 28 #[.int .i64 root, .int .i64 h]) (hi : Inv w) (hd : Deep st r root) :
    Gives 44 #[.pointer (some ⟨bs, 0, none⟩), .pointer (some ⟨bt, 0, none⟩)] encS (wl st r root) n₀ w := by
  intro l J Jx W hW hJ hJx hY h0
  have hcall := slots_any hs hneg l n₀ W.heap.size (fun k W' => J k W' ∧ Inv W' ∧ W.heap.size ≤ W'.heap.size) Jx
    (fun k X Y hX hb => ⟨own_below hJ hX.1 hb, hs.keep _ _ hX.2.1 hb, Nat.le_trans hX.2.2 hb.size⟩) (fun _ _ hX => hX.2.1) (fun _ _ hX => hX.2.2) r root 0 W hd ⟨h0, hs.keep _ _ hi hW, Nat.le_refl _⟩
    (fun j x hx W1 hJ1 => by
      rw [Nat.zero_add] at hJ1 ⊢
      have hw := hW.size
      exact YieldAt.mono (hY j x W1 hx hJ1.1) fun e W' hr => hr.elim (fun ⟨h1, h2, h3⟩ => .inl ⟨h1, ⟨h2, hs.kept _ _ hJ1.2.1 ((h3.below (by have := hJ1.2.2; omega)).mono hB), Nat.le_trans hJ1.2.2 h3.size⟩, h3⟩) (fun ⟨h1, h2, _⟩ => .inr ⟨h1, h2⟩))
  have c0 : W.cell? ⟨bs, 0, none⟩ = some (.iface d v) := (hbs.stay hW).cell 0
  have c1 : W.cell? ⟨bt, 0, none⟩ = some (.int .i64 root) := (hbt.stay hW).cell 0
  have HC := Lib.hid hcall
  clear hcall hY hbs hbt h0 hJ hJx hW hi hd
  refine callsIn_of_wp Try.func44 rfl trivial ?_
  simp only [Try.ntmps44, List.size_toArray, List.length_cons, List.length_nil, Nat.reduceAdd, Nat.reduceSub, Array.replicate_succ, Array.replicate_zero, List.push_toArray, List.append_toArray, List.nil_append, List.cons_append]
  gi_wp2_with (gi_at_call 45; refine HC.out.mono ?_; rintro e W1 (⟨rfl, hJ1, _⟩ | ⟨rfl, j, hj, hx⟩))
  · go_end0
    exact ⟨⟨_, rfl⟩, .inl (by simpa using hJ1.1)⟩
  · go_end0
    exact ⟨⟨_, rfl⟩, .inr ⟨j, hj, by simpa using hx⟩⟩
end Go.Proofs.Ytnekbbmhjbjicaa

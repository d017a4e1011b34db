/- Bytes as strings; a reader in memory; general laws on worlds; the contracts of a reader's smallest methods. -/
import Derived.Test.YtmgifbibhodbbaaDoorRows
import Derived.Test.YtmgifbibhodbbaaDoorM
import Derived.Test.YtmgifbibhodbbaaDoorShelf
import Derived.WalkKit
import Derived.WalkLawsBesides
import Derived.WalkSpells
import Derived.Lib.Hide
import Derived.Deep.QuietTactic
import Derived.BigQuiet
import Derived.Deep.Draws
import Derived.Lib.IndexBytes
import Derived.WideShapes
import Derived.Outline
namespace Go.Proofs.YtmgifbibhodbbaaDoor
open Go.RowKit

theorem below_alloc {a w : World} (h : Below a.heap.size a w) (o : Obj) : Below a.heap.size a (w.alloc o) := h.alloc h.size o
theorem below_drewN {B : Nat} {a w : World} (h : Below B a w) (n : Nat) : Below B a (w.drewN n) := ⟨h.os, h.tape, h.output, h.size, h.block⟩
/-- behind a call whose world is w1 -/
theorem below_on {a w w1 : World} (h : Below a.heap.size a w) (k : Below w.heap.size w w1) : Below a.heap.size a w1 := h.trans (k.mono h.size)

/-- block g is just these cells of element type t, none of them frozen -/
def Blk (w : World) (g : Nat) (t : TypeId) (cs : Array Value) : Prop := w.heap[g]? = some (.cells cs t (0, 0))

theorem Blk.lt {w : World} {g : Nat} {t : TypeId} {cs : Array Value} (h : Blk w g t cs) : g < w.heap.size := (Array.getElem?_eq_some_iff.1 h).1
theorem Blk.cell {w : World} {g : Nat} {t : TypeId} {cs : Array Value} (h : Blk w g t cs) (i : Nat) : w.cell? ⟨g, i, none⟩ = cs[i]? := cell_of_row w g i cs t (0, 0) h
theorem Blk.frozen {w : World} {g : Nat} {t : TypeId} {cs : Array Value} (h : Blk w g t cs) (i : Nat) : w.frozen? ⟨g, i, none⟩ = false := frozen_of_row w g i cs t h
theorem Blk.new (w : World) (t : TypeId) (cs : Array Value) : Blk (w.alloc (.cells cs t)) w.heap.size t cs := heap_alloc_new w _
theorem Blk.drewN {w : World} {g : Nat} {t : TypeId} {cs : Array Value} (h : Blk w g t cs) (n : Nat) : Blk (w.drewN n) g t cs := h
theorem Blk.alloc {w : World} {g : Nat} {t : TypeId} {cs : Array Value} (h : Blk w g t cs) (o : Obj) : Blk (w.alloc o) g t cs := (Below.heap_alloc w o g h.lt).trans h
theorem Blk.far {w : World} {g : Nat} {t : TypeId} {cs : Array Value} (h : Blk w g t cs) {p : Addr} (hp : g ≠ p.block) (u : Value) : Blk (w.setCell p u) g t cs := (Below.heap_setCell w p u g hp).trans h
theorem Blk.set_ {w : World} {g : Nat} {t : TypeId} {cs : Array Value} (h : Blk w g t cs) (i : Nat) (u : Value) : Blk (w.setCell ⟨g, i, none⟩ u) g t (cs.setIfInBounds i u) := by
  unfold Blk at h ⊢
  simp [World.setCell, Array.getElem?_modify, h]
theorem Blk.below {w w' : World} {g B : Nat} {t : TypeId} {cs : Array Value} (h : Blk w g t cs) (hb : Below B w w') (hg : g < B) : Blk w' g t cs := (hb.block g hg).trans h
theorem Blk.stay {w w' : World} {g : Nat} {t : TypeId} {cs : Array Value} (h : Blk w g t cs) (hb : Below w.heap.size w w') : Blk w' g t cs := h.below hb h.lt
theorem Blk.grown {w w' : World} {g : Nat} {t : TypeId} {cs : Array Value} {r : Option Nat} (h : Blk w g t cs) (hg : w.grownBy w' r) (hne : r ≠ some g) : Blk w' g t cs :=
  (hg.block g h.lt (fun e => hne e.symm)).trans h

theorem grown_refl (w : World) (r : Option Nat) : w.grownBy w r := ⟨rfl, rfl, rfl, Nat.le_refl _, fun _ _ _ => rfl⟩
theorem grown_trans {a b c : World} {r r1 : Option Nat} (h : a.grownBy b r) (k : b.grownBy c r1) (hr : ∀ g, r1 = some g → r = some g ∨ a.heap.size ≤ g) : a.grownBy c r :=
  ⟨k.os.trans h.os, k.tape.trans h.tape, k.output.trans h.output, Nat.le_trans h.size k.size, fun i hi hne => by
    refine (k.block i (Nat.lt_of_lt_of_le hi h.size) (fun e => ?_)).trans (h.block i hi hne)
    rcases hr i e.symm with h1 | h1
    · exact hne h1.symm
    · omega⟩
theorem grown_then {a b c : World} {r : Option Nat} (h : a.grownBy b r) (k : b.grownBy c r) : a.grownBy c r := grown_trans h k (fun _ e => .inl e)
theorem grown_of_below {a b : World} (h : Below a.heap.size a b) (r : Option Nat) : a.grownBy b r := ⟨h.os, h.tape, h.output, h.size, fun i hi _ => h.block i hi⟩
theorem grown_below {a b c : World} {r : Option Nat} (h : a.grownBy b r) (k : Below b.heap.size b c) : a.grownBy c r := grown_then h (grown_of_below k r)
theorem grown_alloc {a b : World} {r : Option Nat} (h : a.grownBy b r) (o : Obj) : a.grownBy (b.alloc o) r := grown_then h (World.grownBy_alloc b o r)
theorem grown_drewN {a b : World} {r : Option Nat} (h : a.grownBy b r) (n : Nat) : a.grownBy (b.drewN n) r := ⟨h.os, h.tape, h.output, h.size, h.block⟩
theorem grown_set {a b : World} {r : Option Nat} (h : a.grownBy b r) {p : Addr} (hp : r = some p.block ∨ a.heap.size ≤ p.block) (u : Value) : a.grownBy (b.setCell p u) r :=
  ⟨h.os, h.tape, h.output, by simpa [World.setCell] using h.size, fun i hi hne => (Below.heap_setCell b p u i (fun e => by
    subst e
    rcases hp with hp | hp
    · exact hne hp.symm
    · omega)).trans (h.block i hi hne)⟩
theorem below_of_grown {a b : World} {r : Option Nat} {B : Nat} (h : a.grownBy b r) (hB : B ≤ a.heap.size) (hr : ∀ g, r = some g → B ≤ g) : Below B a b :=
  (Below.refl B a).grown h hB hr
theorem below_grown {a b : World} (h : a.grownBy b none) : Below a.heap.size a b := ⟨h.os, h.tape, h.output, h.size, fun k hk => h.block k hk (by simp)⟩

theorem ret_int {k : IntKind} {a b : Int} (h : a = b) : Ending.returned (.int k a) = .returned (.int k b) := by rw [h]
theorem ret_bool {a b : Bool} (h : a = b) : Ending.returned (.bool a) = .returned (.bool b) := by rw [h]
theorem ret_str {a b : ByteArray} (h : a = b) : Ending.returned (.string a) = .returned (.string b) := by rw [h]

theorem grown_set1 (w : World) (g i : Nat) (u : Value) : w.grownBy (w.setCell ⟨g, i, none⟩ u) (some g) := grown_set (grown_refl w _) (.inl rfl) u
theorem grown_set2 {a b : World} {g : Nat} (h : a.grownBy b (some g)) (i : Nat) (u : Value) : a.grownBy (b.setCell ⟨g, i, none⟩ u) (some g) := grown_set h (.inl rfl) u

/-- the end of a function without results -/
theorem bodyPost_end0 {P : Program} {fn : Func} {R : Ending → World → Prop} {a : Act} {w : World} (hr : fn.results = #[]) (hd : a.defers = []) (hR : R (.returned (.tuple #[])) w) : bodyPost P fn R .normal a w :=
  bodyPost_end (results_none hr _ _ _) hd hR

/-- a list of bytes as a string -/
def B (l : List UInt8) : ByteArray := ⟨l.toArray⟩
@[go_sem] theorem B_size (l : List UInt8) : (B l).size = l.length := by simp [B, ByteArray.size]
theorem B_list (s : ByteArray) : B s.data.toList = s := by simp [B]
theorem B_data (l : List UInt8) : (B l).data.toList = l := by simp [B]
theorem B_inj {a b : List UInt8} (h : B a = B b) : a = b := by have := congrArg (fun s => s.data.toList) h; simpa [B] using this
theorem B_eq (a b : List UInt8) : (B a = B b) ↔ a = b := ⟨B_inj, fun h => by rw [h]⟩
theorem B_nil : B [] = ⟨#[]⟩ := rfl

theorem ret_B {a b : List UInt8} (h : a = b) : Ending.returned (.string (B a)) = .returned (.string (B b)) := by rw [h]
theorem byte_beq (a b : UInt8) : ((a.toNat : Int) == (b.toNat : Int)) = (some a == some b) := by
  rw [Bool.eq_iff_iff]; simp [← UInt8.toNat_inj]; omega

/-- a reader: what is left, and whether it gave up -/
def Rd (w : World) (g : Nat) (l : List UInt8) (f : Bool) : Prop := Blk w g 54 #[.string (B l), .bool f]
def pt (g : Nat) : Value := .pointer (some ⟨g, 0, none⟩)

@[go_sem] theorem B_toList (l : List UInt8) : (B l).toList = l := by rw [Lib.toList_data, B_data]
@[go_sem] theorem B_head (l : List UInt8) (n : Nat) : (B l).extract 0 n = B (l.take n) := by
  simp [B, ByteArray.extract, ByteArray.copySlice]
@[go_sem] theorem B_tail (l : List UInt8) (n : Nat) : (B l).extract n l.length = B (l.drop n) := by
  apply Go.WideShapes.bytes_inj
  rw [← B_size l, Lib.extract_to_end, B_data, B_data]
@[go_sem] theorem B_get (l : List UInt8) (i : Nat) (h : i < (B l).size) : (B l)[i] = l[i]'(by simpa [B_size] using h) := by
  simp [B]; rfl

set_option maxHeartbeats 400000 in
theorem take_any (g : Nat) (l : List UInt8) (f : Bool) (n : Nat) (w : World) (_hl : l.length ≤ maxLen) (hn : n ≤ l.length) (hr : Rd w g l f) :
    Calls Tryd.prog 40 #[.pointer (some ⟨g, 0, none⟩), .int .i64 n] w fun e w' => e = .returned (.string (B (l.take n))) ∧ Rd w' g (l.drop n) f ∧ w.grownBy w' (some g) := by
  unfold maxLen at _hl
  have c0 : w.cell? ⟨g, 0, none⟩ = some (.string (B l)) := hr.cell 0
  have f0 := hr.frozen 0
  have HR := Lib.hid hr; clear hr
  go_enter Tryd.func40, Tryd.ntmps40
  go_wp2_with fail
  go_ret
  exact ⟨rfl, HR.out.set_ 0 _, grown_set (grown_refl _ _) (.inl rfl) _⟩

theorem end_any (g : Nat) (l : List UInt8) (f : Bool) (w : World) (hr : Rd w g l f) :
    Calls Tryd.prog 11 #[.pointer (some ⟨g, 0, none⟩)] w fun e w' => e = .returned (.bool (!f && l.isEmpty)) ∧ w = w' := by
  have c0 : w.cell? ⟨g, 0, none⟩ = some (.string (B l)) := hr.cell 0
  have c1 : w.cell? ⟨g, 1, none⟩ = some (.bool f) := hr.cell 1
  have HR := Lib.hid hr; clear hr
  cases f <;> (go_enter Tryd.func11, Tryd.ntmps11; go_wp2_with fail; go_ret; exact ⟨rfl, rfl⟩)

theorem next_any (g : Nat) (l : List UInt8) (f : Bool) (c : UInt8) (w : World) (hl : l.length ≤ maxLen) (hr : Rd w g l f) :
    Calls Tryd.prog 18 #[.pointer (some ⟨g, 0, none⟩), .int .u8 c.toNat] w fun e w' => e = .returned (.bool (nextB c (l, f))) ∧ w = w' := by
  unfold maxLen at hl
  have c0 : w.cell? ⟨g, 0, none⟩ = some (.string (B l)) := hr.cell 0
  have HR := Lib.hid hr; clear hr
  cases l with
  | nil => go_enter Tryd.func18, Tryd.ntmps18; go_wp2_with fail; go_ret; exact ⟨rfl, rfl⟩
  | cons d r =>
    go_enter Tryd.func18, Tryd.ntmps18
    go_wp2_with fail
    go_ret
    exact ⟨ret_bool (byte_beq d c), rfl⟩

theorem fail_any (g : Nat) (l : List UInt8) (f : Bool) (w : World) (hr : Rd w g l f) :
    Calls Tryd.prog 9 #[.pointer (some ⟨g, 0, none⟩)] w fun e w' => e = .returned (.tuple #[]) ∧ Rd w' g [] true ∧ w.grownBy w' (some g) := by
  have c0 : w.cell? ⟨g, 0, none⟩ = some (.string (B l)) := hr.cell 0
  have c1 : w.cell? ⟨g, 1, none⟩ = some (.bool f) := hr.cell 1
  have f0 := hr.frozen 0
  have f1 := hr.frozen 1
  have h2 : Rd ((w.setCell ⟨g, 0, none⟩ (.string ⟨#[]⟩)).setCell ⟨g, 1, none⟩ (.bool true)) g [] true := (Blk.set_ hr 0 (.string ⟨#[]⟩)).set_ 1 (.bool true)
  have H2 := Lib.hid h2; clear h2 hr
  go_enter Tryd.func9, Tryd.ntmps9
  go_wp2_with fail
  refine bodyPost_end0 rfl rfl ⟨rfl, H2.out, ?_⟩
  exact grown_set2 (grown_set1 _ _ _ _) _ _

theorem need_any (g : Nat) (l : List UInt8) (f b : Bool) (w : World) (hr : Rd w g l f) :
    Calls Tryd.prog 35 #[.pointer (some ⟨g, 0, none⟩), .bool b] w fun e w' => e = .returned (.tuple #[]) ∧ Rd w' g (pNeed b (l, f)).1 (pNeed b (l, f)).2 ∧ w.grownBy w' (some g) := by
  cases b with
  | true => 
    go_enter Tryd.func35, Tryd.ntmps35
    go_wp2_with fail
    go_end0
    exact ⟨rfl, hr, grown_refl _ _⟩
  | false =>
    have HR := Lib.hid hr; clear hr
    go_enter Tryd.func35, Tryd.ntmps35
    go_wp2_with (go_at_call 9; refine (fail_any g l f _ HR.out).mono ?_; rintro e w1 ⟨rfl, h1, h2⟩)
    go_end0
    exact ⟨rfl, h1, h2⟩

theorem ok_any (g : Nat) (l : List UInt8) (f : Bool) (w : World) (hr : Rd w g l f) :
    Calls Tryd.prog 10 #[.pointer (some ⟨g, 0, none⟩)] w fun e w' => e = .returned (.bool (!f)) ∧ w = w' := by
  have c1 : w.cell? ⟨g, 1, none⟩ = some (.bool f) := hr.cell 1
  have HR := Lib.hid hr; clear hr
  go_enter Tryd.func10, Tryd.ntmps10
  go_wp2_with fail
  go_ret
  exact ⟨rfl, rfl⟩

theorem left_any (g : Nat) (l : List UInt8) (f : Bool) (w : World) (_hl : l.length ≤ maxLen) (hr : Rd w g l f) :
    Calls Tryd.prog 12 #[.pointer (some ⟨g, 0, none⟩)] w fun e w' => e = .returned (.int .i64 l.length) ∧ w = w' := by
  unfold maxLen at _hl
  have c0 : w.cell? ⟨g, 0, none⟩ = some (.string (B l)) := hr.cell 0
  have HR := Lib.hid hr; clear hr
  go_enter Tryd.func12, Tryd.ntmps12
  go_wp2_with fail
  go_ret
  exact ⟨rfl, rfl⟩

theorem read_any (l : List UInt8) (w : World) :
    Calls Tryd.prog 8 #[.string (B l)] w fun e w' => e = .returned (.pointer (some ⟨w.heap.size, 0, none⟩)) ∧ w' = w.alloc (.cells #[.string (B l), .bool false] 54) := by
  go_enter Tryd.func8, Tryd.ntmps8
  go_wp2_with fail
  go_ret
  exact ⟨rfl, rfl⟩

theorem digital_any (c : UInt8) (w : World) :
    Calls Tryd.prog 36 #[.int .u8 c.toNat] w fun e w' => e = .returned (.bool (digB c)) ∧ w = w' := by
  go_enter Tryd.func36, Tryd.ntmps36
  go_wp2_with fail
  · have h : 48 ≤ (c.toNat : Int) := by assumption
    go_ret
    exact ⟨ret_bool (by unfold digB; rw [Bool.eq_iff_iff]; simp [UInt8.le_iff_toNat_le]; omega), rfl⟩
  · have h : (c.toNat : Int) < 48 := by assumption
    go_ret
    exact ⟨ret_bool (by unfold digB; rw [Bool.eq_iff_iff]; simp [UInt8.le_iff_toNat_le]; omega), rfl⟩

theorem atom_at : ∀ n : Nat, n < 256 → (decide (Lib.indexByte [40, 41, 123, 37, 42, 34, 92, 93] (UInt8.ofNat n) < 0)) = !(UInt8.ofNat n == 40 || UInt8.ofNat n == 41 || UInt8.ofNat n == 123 || UInt8.ofNat n == 37 || UInt8.ofNat n == 42 || UInt8.ofNat n == 34 || UInt8.ofNat n == 92 || UInt8.ofNat n == 93) := by
  decide +kernel
theorem atom_index (c : UInt8) : (decide (Lib.indexByte [40, 41, 123, 37, 42, 34, 92, 93] c < 0)) = !(c == 40 || c == 41 || c == 123 || c == 37 || c == 42 || c == 34 || c == 92 || c == 93) := by
  have := atom_at c.toNat (UInt8.toNat_lt c)
  rwa [UInt8.ofNat_toNat] at this

theorem atomic_any (c : UInt8) (w : World) :
    Calls Tryd.prog 34 #[.int .u8 c.toNat] w fun e w' => e = .returned (.bool (atomB c)) ∧ w = w' := by
  go_enter Tryd.func34, Tryd.ntmps34
  go_wp2_with (go_at_call 55; refine (Tryd.strings_IndexByte _ _ _).mono ?_; rintro e w' ⟨rfl, rfl⟩)
  · have h1 : 33 ≤ (c.toNat : Int) := by assumption
    have h2 : (c.toNat : Int) ≤ 126 := by assumption
    have e1 : decide ((33 : UInt8) ≤ c) = true := by simp [UInt8.le_iff_toNat_le]; omega
    have e2 : decide (c ≤ (126 : UInt8)) = true := by simp [UInt8.le_iff_toNat_le]; omega
    go_ret
    exact ⟨ret_bool (by rw [atom_index]; unfold atomB; rw [e1, e2]; rfl), rfl⟩
  · have h2 : 126 < (c.toNat : Int) := by assumption
    have e2 : decide (c ≤ (126 : UInt8)) = false := by simp [UInt8.lt_iff_toNat_lt]; omega
    go_ret
    exact ⟨ret_bool (by unfold atomB; rw [e2]; simp), rfl⟩
  · have h2 : (c.toNat : Int) < 33 := by assumption
    have e2 : decide ((33 : UInt8) ≤ c) = false := by simp [UInt8.lt_iff_toNat_lt]; omega
    go_ret
    exact ⟨ret_bool (by unfold atomB; rw [e2]; simp), rfl⟩

set_option maxHeartbeats 400000 in
theorem while_any (g : Nat) (l : List UInt8) (f : Bool) (F : FuncId) (lb : Array Value) (p : UInt8 → Bool) (w : World) (hl : l.length ≤ maxLen) (hr : Rd w g l f)
    (eg : ∀ args w, (callFunc F args).run Tryd.prog w = .ok (.enter F args) w)
    (hp : ∀ c : UInt8, Calls Tryd.prog F (#[.int .u8 c.toNat] ++ lb) w fun e w' => e = .returned (.bool (p c)) ∧ w = w') :
    Calls Tryd.prog 33 #[.pointer (some ⟨g, 0, none⟩), .func (.func F) #[] lb] w fun e w' => e = .returned (.string (B (l.takeWhile p))) ∧ Rd w' g (l.dropWhile p) f ∧ w.grownBy w' (some g) := by
  unfold maxLen at hl
  have c0 : w.cell? ⟨g, 0, none⟩ = some (.string (B l)) := hr.cell 0
  have HP := Lib.hid hp
  have HR := Lib.hid hr; clear hr hp
  go_enter Tryd.func33, Tryd.ntmps33
  go_wp2_with fail
  go_step3
  go_wp2_with fail
  go_step3
  go_wp2_with fail
  go_loop [5] (fun n => ∃ k : Nat, k ≤ (l.takeWhile p).length ∧ n = .int .i64 k) (fun n => l.length - (intOf n).toNat)
  case atStart => exact ⟨0, Nat.zero_le _, rfl⟩
  case round =>
    obtain ⟨k, hk, rfl⟩ := hrel
    have htl := takeWhile_le p l
    by_cases hlt : k < l.length
    · cases hpk : p l[k] with
      | true =>
        have hk1 := tw_yes p l k hlt hk hpk
        have hc : Calls Tryd.prog F (#[.int .u8 l[k].toNat] ++ lb) w fun e w' => e = .returned (.bool true) ∧ w = w' := by have := HP.out l[k]; rwa [hpk] at this
        have HC := Lib.hid hc; clear hc hpk
        go_wp2_with (refine HC.out.mono ?_; rintro e w' ⟨rfl, rfl⟩)
        go_round
        case rel => exact ⟨k + 1, hk1, by go_num⟩
        case measure => simp [intOf]; omega
      | false =>
        have hk1 := tw_no p l k hlt hk hpk
        have HK := Lib.hid hk1
        have hc : Calls Tryd.prog F (#[.int .u8 l[k].toNat] ++ lb) w fun e w' => e = .returned (.bool false) ∧ w = w' := by have := HP.out l[k]; rwa [hpk] at this
        have HC := Lib.hid hc; clear hc hpk hk1
        go_wp2_with (first
          | (go_at_call 40; refine (take_any g l f k _ hl (by omega) HR.out).mono ?_; rintro e w1 ⟨rfl, h1, h2⟩)
          | (refine HC.out.mono ?_; rintro e w' ⟨rfl, rfl⟩))
        rw [Exit.noGoto_ret]
        go_ret
        refine ⟨?_, ?_, h2⟩
        · exact ret_B (by rw [takeWhile_eq_take, ← HK.out])
        · rw [dropWhile_eq_drop, ← HK.out]; exact h1
    · have hk1 : k = (l.takeWhile p).length := by omega
      have HK := Lib.hid hk1; clear hk1
      go_wp2_with (first
        | (go_at_call 40; refine (take_any g l f k _ hl (by omega) HR.out).mono ?_; rintro e w1 ⟨rfl, h1, h2⟩))
      rw [Exit.noGoto_ret]
      go_ret
      refine ⟨?_, ?_, h2⟩
      · exact ret_B (by rw [takeWhile_eq_take, ← HK.out])
      · rw [dropWhile_eq_drop, ← HK.out]; exact h1


theorem atom_any (g : Nat) (l : List UInt8) (f : Bool) (w : World) (hl : l.length ≤ maxLen) (hr : Rd w g l f) :
    Calls Tryd.prog 13 #[.pointer (some ⟨g, 0, none⟩)] w fun e w' => e = .returned (.string (B (pAtom (l, f)).1)) ∧ Rd w' g (pAtom (l, f)).2.1 (pAtom (l, f)).2.2 ∧ w.grownBy w' (some g) := by
  have h1 := while_any g l f 34 #[] atomB w hl hr (Go.Proofs.enters_of Tryd.func34 (by kernel_rfl) rfl) (fun c => atomic_any c w)
  have H1 := Lib.hid h1; clear h1
  have HR := Lib.hid hr; clear hr
  go_enter Tryd.func13, Tryd.ntmps13
  go_wp2_with (first
    | (go_at_call 33; refine H1.out.mono ?_; rintro e w1 ⟨rfl, h2, h3⟩)
    | (go_at_call 35; refine (need_any g _ _ _ _ h2).mono ?_; rintro e w2 ⟨rfl, h4, h5⟩))
  go_ret
  exact ⟨rfl, h4, grown_then h3 h5⟩

end Go.Proofs.YtmgifbibhodbbaaDoor

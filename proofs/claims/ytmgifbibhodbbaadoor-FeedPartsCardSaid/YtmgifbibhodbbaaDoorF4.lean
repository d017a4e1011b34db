/- A byte of a line that is too long; what is told. -/
import Derived.Test.YtmgifbibhodbbaaDoorF3
import Derived.Lib.BufferRead
import Derived.Laws.IdiomStrings
namespace Go.Proofs.YtmgifbibhodbbaaDoor
open Go.RowKit

set_option maxRecDepth 100000 in
/-- bytes of a row as a string -/
theorem own_convert {w : World} {D k n cap : Nat} {l : List UInt8} (h : w.ownsRow D 5 1 (.slice (some ⟨k, 0, none⟩) n cap) l.length (Lib.byteCells l)) (a m c : Nat) (ham : a + m ≤ l.length) :
    (convert 39 9 (.slice (some ⟨k, a, none⟩) m c)).run Tryd.prog w = .ok (.string (B ((l.drop a).take m))) w := by
  rcases h.2 with ⟨hv, _⟩ | ⟨g, cap1, cur, hv, _, hcur, _, _, _, htk⟩
  · cases hv
  · injection hv with hv h1 h2
    injection hv with hv
    injection hv with hv
    subst hv
    have hl : ((l.drop a).take m).length = m := by simp; omega
    have hcells := Lib.bytes_of_row hcur (l := l) (by simpa using htk)
    have := run_convert_bytes_back (P := Tryd.prog) w 39 9 5 ⟨k, a, none⟩ c ((l.drop a).take m) Tryd.underlying39 Tryd.underlying5 Tryd.underlying9 (fun j hj => by
      have := hcells (a + j) (by omega)
      refine Eq.trans (congrArg _ ?_) (this.trans ?_)
      · simp only [Addr.add]; split <;> simp_all
      · simp)
    rw [hl] at this
    exact this

theorem Md.drewN {B g r : Nat} {w w' : World} {s : List UInt8} {v : Value} {cs rc : Array Value} (h : Md B g w w' s v cs r rc) (n : Nat) : Md B g w (w'.drewN n) s v cs r rc :=
  ⟨h.blk, h.own, h.res, h.fr.drewN n, h.lt, h.le, h.ne⟩
/-- the feed forgets its row -/
theorem Md.begun {B g r : Nat} {w w' w2 : World} {s : List UInt8} {v : Value} {cs rc cs2 : Array Value} (h : Md B g w w' s v cs r rc) (hb : Blk w2 g 68 cs2) (hg : w'.grownBy w2 (some g)) : Md B g w w2 [] (.slice none 0 0) cs2 r rc :=
  ⟨hb, ⟨rfl, .inl ⟨rfl, rfl⟩⟩, h.res.grown hg (fun e => h.ne (by injection e)), h.fr.grownG hg, h.lt, Nat.le_trans h.le hg.size, h.ne⟩

set_option maxHeartbeats 800000 in
theorem skipF_any (B g : Nat) (st : FS) (v : Value) (x : UInt8) (w : World) (h : Fd B g w st v) :
    Calls Tryd.prog 63 #[.pointer (some ⟨g, 0, none⟩), .int .u8 x.toNat] w (Said B g w (skipF st x)) := by
  have hg : g < w.heap.size := h.blk.lt
  have c5 : w.cell? ⟨g, 5, none⟩ = some (.int .u8 st.last) := h.blk.cell 5
  have f5 := h.blk.frozen 5
  have H := Lib.hid h.md; clear h
  by_cases h13 : st.last = 13
  · have hd : ((st.last : Int) == (((⟨#[13, 10]⟩ : ByteArray)[0]'(by decide)).toNat : Int)) = true := by simp [h13]; rfl
    by_cases h10 : x = 10
    · have he : ((x.toNat : Int) == (((⟨#[13, 10]⟩ : ByteArray)[1]'(by decide)).toNat : Int)) = true := by simp [h10]; rfl
      go_enter Tryd.func63, Tryd.ntmps63
      go_wp2_with fail
      go_quiet (fail)
      go_wp2_with (go_at_call 82; refine (again_blk g _ _ _ _ _ _ _ _ (H.out.drewN nq).blk).mono ?_)
      rintro e w1 ⟨rfl, hb, hg1⟩
      have H1 := Lib.hid ((H.out.drewN nq).begun hb hg1)
      clear hb hg1 H
      have r0 : w1.cell? ⟨w.heap.size, 0, none⟩ = some (.int .i64 0) := H1.out.res.cell 0
      have r1 : w1.cell? ⟨w.heap.size, 1, none⟩ = some (.string ⟨#[]⟩) := H1.out.res.cell 1
      have e0 := H1.out.res.frozen 0
      have e1 := H1.out.res.frozen 1
      go_wp2_with fail
      have K := (H1.out.res_ (Nat.le_refl _) 0 (.int .i64 0)).res_ (Nat.le_refl _) 1 (.string ⟨#[]⟩)
      have hs : skipF st x = (FS.new, none) := by simp [skipF, h13, h10]
      rw [hs]
      exact bodyPost_ret (v := .tuple #[.agg #[.int .i64 0, .string ⟨#[]⟩], .bool false]) (by simp [results, Tryd.results63, go_sem, r0, r1]) rfl ⟨rfl, ⟨_, K.fd (st := FS.new) rfl rfl⟩, K.fr⟩
    · have he : ((x.toNat : Int) == (((⟨#[13, 10]⟩ : ByteArray)[1]'(by decide)).toNat : Int)) = false := by
        simp only [beq_eq_false_iff_ne, ne_eq]
        intro e
        exact h10 (UInt8.toNat_inj.1 (by have e' : (x.toNat : Int) = 10 := e; have : (10 : UInt8).toNat = 10 := rfl; omega))
      go_enter Tryd.func63, Tryd.ntmps63
      go_wp2_with fail
      go_quiet (fail)
      go_wp2_with fail
      have K := (((H.out.drewN nq).set_ 5 (.int .u8 x.toNat)).res_ (Nat.le_refl _) 0 (.int .i64 0)).res_ (Nat.le_refl _) 1 (.string ⟨#[]⟩)
      have hs : skipF st x = ({ st with last := x.toNat }, none) := by simp [skipF, h10]
      rw [hs]
      exact bodyPost_ret (v := .tuple #[.agg #[.int .i64 0, .string ⟨#[]⟩], .bool false]) (by simp [results, Tryd.results63, go_sem]) rfl ⟨rfl, ⟨_, K.fd (st := { st with last := x.toNat }) rfl rfl⟩, K.fr⟩
  · have hd : ((st.last : Int) == (((⟨#[13, 10]⟩ : ByteArray)[0]'(by decide)).toNat : Int)) = false := by
      simp only [beq_eq_false_iff_ne, ne_eq]
      intro e
      exact h13 (by have e' : (st.last : Int) = 13 := e; omega)
    go_enter Tryd.func63, Tryd.ntmps63
    go_wp2_with fail
    go_quiet (fail)
    go_wp2_with fail
    have K := (((H.out.drewN nq).set_ 5 (.int .u8 x.toNat)).res_ (Nat.le_refl _) 0 (.int .i64 0)).res_ (Nat.le_refl _) 1 (.string ⟨#[]⟩)
    have hs : skipF st x = ({ st with last := x.toNat }, none) := by simp [skipF, h13]
    rw [hs]
    exact bodyPost_ret (v := .tuple #[.agg #[.int .i64 0, .string ⟨#[]⟩], .bool false]) (by simp [results, Tryd.results63, go_sem]) rfl ⟨rfl, ⟨_, K.fd (st := { st with last := x.toNat }) rfl rfl⟩, K.fr⟩

end Go.Proofs.YtmgifbibhodbbaaDoor

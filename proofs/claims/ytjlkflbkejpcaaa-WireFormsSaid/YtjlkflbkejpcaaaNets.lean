/- Two networks side by side, step by step. -/
import Derived.Test.YtjlkflbkejpcaaaTurn
import Derived.Test.YtjlkflbkejpcaaaAsk
import Derived.Test.YtjlkflbkejpcaaaLay
namespace Go.Proofs.Ytjlkflbkejpcaaa
open Go.RowKit

/-- The networks of the program and of the reference, apart from each other. -/
structure Nets (w : World) (b : Nat) (r : Option Nat) (b2 : Nat) (r2 : Option Nat) (l : List Pk) (lost : Int) (l2 : List Pk) (lost2 : Int) : Prop where
  l : NetAt 41 w b r l lost
  x : NetAt 66 w b2 r2 l2 lost2
  apart : ∀ k, r = some k → r2 ≠ some k
section
variable {w w1 : World} {b b2 : Nat} {r r2 : Option Nat} {l l2 l1 : List Pk} {lost lost2 lost1 : Int}
theorem NetAt.rowNe {T : TypeId} (h : NetAt T w b r l lost) {T2 : TypeId} {cs : Array Value} {g : Nat} (hg : w.heap[g]? = some (.cells cs T2 (0, 0))) (hne : T2 ≠ 45) : r ≠ some g := by
  obtain ⟨A, c, _, h2⟩ := h
  exact h2.ne hg hne
theorem NetAt.rlt {T : TypeId} (h : NetAt T w b r l lost) {k : Nat} (hk : r = some k) : k < w.heap.size := by
  obtain ⟨A, c, _, h2⟩ := h
  exact (h2.lt hk).1
theorem Nets.drew (h : Nets w b r b2 r2 l lost l2 lost2) : Nets w.drew b r b2 r2 l lost l2 lost2 := ⟨h.l, h.x, h.apart⟩
theorem Nets.bne (h : Nets w b r b2 r2 l lost l2 lost2) : b ≠ b2 := by
  obtain ⟨_, _, h1, _⟩ := h.l
  obtain ⟨_, _, h2, _⟩ := h.x
  exact blkNe h1 h2 (by decide)
theorem Nets.rb2 (h : Nets w b r b2 r2 l lost l2 lost2) : r ≠ some b2 := by
  obtain ⟨_, _, h2, _⟩ := h.x
  exact h.l.rowNe h2 (by decide)
theorem Nets.r2b (h : Nets w b r b2 r2 l lost l2 lost2) : r2 ≠ some b := by
  obtain ⟨_, _, h2, _⟩ := h.l
  exact h.x.rowNe h2 (by decide)
theorem Nets.none_ (h : Nets w b r b2 r2 l lost l2 lost2) (c : Chg (fun _ => False) w w1) : Nets w1 b r b2 r2 l lost l2 lost2 := ⟨h.l.kept c, h.x.kept c, h.apart⟩
theorem Nets.stepL (h : Nets w b r b2 r2 l lost l2 lost2) {r1 : Option Nat} (h1 : NetAt 41 w1 b r1 l1 lost1) (hn : Newer w r r1) (c : Chg (fun k => k = b ∨ r = some k) w w1) : Nets w1 b r1 b2 r2 l1 lost1 l2 lost2 :=
  ⟨h1, h.x.chg c (fun e => e.elim (fun e => h.bne e.symm) h.rb2) (fun k hk e => e.elim (fun e => h.r2b (hk.trans (congrArg some e))) (fun e => h.apart k e hk)),
    fun k hk hk2 => (hn k hk).elim (fun e => h.apart k e hk2) (fun e => by have := h.x.rlt hk2; omega)⟩
theorem Nets.stepR (h : Nets w b r b2 r2 l lost l2 lost2) {r1 : Option Nat} (h1 : NetAt 66 w1 b2 r1 l1 lost1) (hn : Newer w r2 r1) (c : Chg (fun k => k = b2 ∨ r2 = some k) w w1) : Nets w1 b r b2 r1 l lost l1 lost1 :=
  ⟨h.l.chg c (fun e => e.elim (fun e => h.bne e) h.r2b) (fun k hk e => e.elim (fun e => h.rb2 (hk.trans (congrArg some e))) (fun e => h.apart k hk e)), h1,
    fun k hk hk2 => (hn k hk2).elim (fun e => h.apart k hk e) (fun e => by have := h.l.rlt hk; omega)⟩
theorem Nets.chg (h : Nets w b r b2 r2 l lost l2 lost2) {g : Nat} (c : Chg (fun k => k = g) w w1) (h1 : b ≠ g) (h2 : r ≠ some g) (h3 : b2 ≠ g) (h4 : r2 ≠ some g) : Nets w1 b r b2 r2 l lost l2 lost2 :=
  ⟨h.l.chg c h1 (fun k hk e => h2 (hk.trans (congrArg some e))), h.x.chg c h3 (fun k hk e => h4 (hk.trans (congrArg some e))), h.apart⟩
end
/-- A packet stored into a box. -/
theorem boxSet {w : World} {g : Nat} {a b c : Value} {T : TypeId} (h : w.heap[g]? = some (.cells #[a, b, c] T (0, 0))) (x y z : Value) :
    (((w.setCell ⟨g, 0, none⟩ x).setCell ⟨g, 1, none⟩ y).setCell ⟨g, 2, none⟩ z).heap[g]? = some (.cells #[x, y, z] T (0, 0)) ∧ Chg (fun k => k = g) w (((w.setCell ⟨g, 0, none⟩ x).setCell ⟨g, 1, none⟩ y).setCell ⟨g, 2, none⟩ z) := by
  have h1 := blkSet h 0 x
  have h2 := blkSet h1 1 y
  have h3 := blkSet h2 2 z
  exact ⟨by simpa using h3, (((Chg.refl _ w).cellOf 0 x).cellOf 1 y).cellOf 2 z⟩
/-- What a walk reads of a call in its box. -/
theorem opCells {w : World} {g : Nat} {a b c d e f h : Value} {T : TypeId} (hh : w.heap[g]? = some (.cells #[a, b, c, d, e, f, h] T (0, 0))) :
    w.cell? ⟨g, 0, none⟩ = some a ∧ w.cell? ⟨g, 1, none⟩ = some b ∧ w.cell? ⟨g, 2, none⟩ = some c ∧ w.cell? ⟨g, 3, none⟩ = some d ∧ w.cell? ⟨g, 4, none⟩ = some e ∧ w.cell? ⟨g, 5, none⟩ = some f ∧ w.cell? ⟨g, 6, none⟩ = some h :=
  ⟨blkCell hh 0, blkCell hh 1, blkCell hh 2, blkCell hh 3, blkCell hh 4, blkCell hh 5, blkCell hh 6⟩
/-- Three blocks made one behind the other. -/
theorem three (w : World) (c1 c2 c3 : Array Value) (t1 t2 t3 : TypeId) :
    (((w.alloc (.cells c1 t1)).alloc (.cells c2 t2)).alloc (.cells c3 t3)).heap[w.heap.size]? = some (.cells c1 t1 (0, 0)) ∧ (((w.alloc (.cells c1 t1)).alloc (.cells c2 t2)).alloc (.cells c3 t3)).heap[w.heap.size + 1]? = some (.cells c2 t2 (0, 0)) ∧
    (((w.alloc (.cells c1 t1)).alloc (.cells c2 t2)).alloc (.cells c3 t3)).heap[w.heap.size + 2]? = some (.cells c3 t3 (0, 0)) := by
  have h1 := blkAlloc w (.cells c1 t1)
  have h2 := blkAlloc (w.alloc (.cells c1 t1)) (.cells c2 t2)
  have h3 := blkAlloc ((w.alloc (.cells c1 t1)).alloc (.cells c2 t2)) (.cells c3 t3)
  rw [show (w.alloc (.cells c1 t1)).heap.size = w.heap.size + 1 from by simp] at h2
  rw [show ((w.alloc (.cells c1 t1)).alloc (.cells c2 t2)).heap.size = w.heap.size + 2 from by simp] at h3
  have k1 := ((Chg.refl (fun _ => False) (w.alloc (.cells c1 t1))).alloc (.cells c2 t2)).alloc (.cells c3 t3)
  have k2 := (Chg.refl (fun _ => False) ((w.alloc (.cells c1 t1)).alloc (.cells c2 t2))).alloc (.cells c3 t3)
  exact ⟨k1.obj h1 (fun h => h), k2.obj h2 (fun h => h), h3⟩
end Go.Proofs.Ytjlkflbkejpcaaa

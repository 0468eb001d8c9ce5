/- A list of operations (a slice of structs of three cells) that came in: how it lies. -/
import Derived.Test.YtjlkflbkejpcaaaBase
namespace Go.Proofs.Ytjlkflbkejpcaaa
open Go.RowKit

/-- One operation: its kind, its number, its text. -/
structure OpV where
  k : Int
  n : Int
  s : ByteArray
def OpV.val (o : OpV) : Value := .agg #[.int .u8 o.k, .int .i64 o.n, .string o.s]
/-- The operation's three cells at an address, spelt as the walk has them. -/
def OpV.at_ (o : OpV) (w : World) (a : Addr) : Prop :=
  w.cell? a = some (.int .u8 o.k) ∧ w.cell? ⟨a.block, a.off + 1, none⟩ = some (.int .i64 o.n) ∧ w.cell? ⟨a.block, a.off + 2, none⟩ = some (.string o.s)
theorem cellLt {w : World} {a : Addr} {v : Value} (h : w.cell? a = some v) : a.block < w.heap.size := World.block_lt_of_cell? w a h
theorem cellChg {S : Nat → Prop} {w w1 : World} {a : Addr} {v : Value} (h : w.cell? a = some v) (c : Chg S w w1) (hn : ¬ S a.block) : w1.cell? a = some v := by
  rw [World.cell?_of_block (c.block a.block (cellLt h) hn)]
  exact h
theorem OpV.at_chg {o : OpV} {S : Nat → Prop} {w w1 : World} {a : Addr} (h : o.at_ w a) (c : Chg S w w1) (hn : ¬ S a.block) : o.at_ w1 a :=
  ⟨cellChg h.1 c hn, cellChg h.2.1 c hn, cellChg h.2.2 c hn⟩
def OpV.ok (o : OpV) : Prop := (0 ≤ o.k ∧ o.k ≤ 255)
/-- A slice at A reads as the operations l. -/
def OpsIn (w : World) (A : Option Addr) (l : List OpV) : Prop :=
  l.length ≤ 9223372036854775807 ∧ (0 < l.length → ∃ a, A = some a ∧ ∀ (j : Nat) (o : OpV), l[j]? = some o → o.at_ w (a.add (j * 3)) ∧ o.ok)
theorem OpsIn.get {w : World} {A : Option Addr} {l : List OpV} (h : OpsIn w A l) (j : Nat) (hj : j < l.length) : ∃ a, A = some a ∧ (l[j]).at_ w (a.add (j * 3)) ∧ (l[j]).ok := by
  obtain ⟨a, ha, hc⟩ := h.2 (by omega)
  exact ⟨a, ha, hc j _ (List.getElem?_eq_getElem hj)⟩
end Go.Proofs.Ytjlkflbkejpcaaa

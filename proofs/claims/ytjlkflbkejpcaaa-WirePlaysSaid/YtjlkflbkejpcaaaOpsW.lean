/- The calls of a network, as an argument holds them. -/
import Derived.Test.YtjlkflbkejpcaaaNets
import Derived.Test.YtjlkflbkejpcaaaOps
namespace Go.Proofs.Ytjlkflbkejpcaaa
open Go.RowKit

/-- A call: its kind, the packet's place, the byte's place, the bits, a packet. -/
structure OpW where
  k : Int
  i : Int
  at_ : Int
  bits : Int
  p : Pk
def OpW.cells (o : OpW) : List Value := [.int .u8 o.k, .int .i64 o.i, .int .i64 o.at_, .int .u8 o.bits, .int .i64 o.p.f, .int .i64 o.p.t, .string o.p.b]
def OpW.at' (o : OpW) (w : World) (a : Addr) : Prop :=
  w.cell? a = some (.int .u8 o.k) ∧ w.cell? ⟨a.block, a.off + 1, none⟩ = some (.int .i64 o.i) ∧ w.cell? ⟨a.block, a.off + 2, none⟩ = some (.int .i64 o.at_) ∧ w.cell? ⟨a.block, a.off + 3, none⟩ = some (.int .u8 o.bits) ∧
  w.cell? ⟨a.block, a.off + 4, none⟩ = some (.int .i64 o.p.f) ∧ w.cell? ⟨a.block, a.off + 5, none⟩ = some (.int .i64 o.p.t) ∧ w.cell? ⟨a.block, a.off + 6, none⟩ = some (.string o.p.b)
theorem OpW.chg {o : OpW} {S : Nat → Prop} {w w1 : World} {a : Addr} (h : o.at' w a) (c : Chg S w w1) (hn : ¬ S a.block) : o.at' w1 a :=
  ⟨cellChg h.1 c hn, cellChg h.2.1 c hn, cellChg h.2.2.1 c hn, cellChg h.2.2.2.1 c hn, cellChg h.2.2.2.2.1 c hn, cellChg h.2.2.2.2.2.1 c hn, cellChg h.2.2.2.2.2.2 c hn⟩
def OpW.ok (o : OpW) : Prop := 0 ≤ o.k ∧ o.k ≤ 255
/-- A slice at A reads as the calls l. -/
def CallsIn (w : World) (A : Option Addr) (l : List OpW) : Prop :=
  l.length ≤ 9223372036854775807 ∧ (0 < l.length → ∃ a, A = some a ∧ ∀ (j : Nat) (o : OpW), l[j]? = some o → o.at' w (a.add (j * 7)) ∧ o.ok)
theorem CallsIn.get {w : World} {A : Option Addr} {l : List OpW} (h : CallsIn w A l) (j : Nat) (hj : j < l.length) : ∃ a, A = some a ∧ (l[j]).at' w (a.add (j * 7)) ∧ (l[j]).ok := by
  obtain ⟨a, ha, hc⟩ := h.2 (by omega)
  exact ⟨a, ha, hc j _ (List.getElem?_eq_getElem hj)⟩
theorem quietW {P : Program} {f : FuncId} {args : Array Value} {w : World} {n : Nat} {v : Value}
    (h : Calls P f args (w.drewN n) fun e w' => e = .returned v ∧ w.drewN n = w') : Calls P f args (w.drewN n) fun e w'' => e = .returned v ∧ ∃ m, w'' = w.drewN m :=
  h.mono fun _ _ ⟨he, hm⟩ => ⟨he, n, hm.symm⟩
end Go.Proofs.Ytjlkflbkejpcaaa

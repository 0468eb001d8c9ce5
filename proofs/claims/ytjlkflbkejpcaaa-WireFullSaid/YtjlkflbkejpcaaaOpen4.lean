/- Opening arguments: a slice of strings as a list. -/
import Derived.Test.YtjlkflbkejpcaaaOpen
import Derived.Test.YtjlkflbkejpcaaaFull
namespace Go.Proofs.Ytjlkflbkejpcaaa
open Go.ChangeShapes Go.WideShapes Go.Deep Go.RowKit
theorem strs_of {H : Type} {enc : TypeId × Value → H} {w : World} {base : Nat} {spare : Nat → Bool} {held : Bool} {fuel : Nat} {cs : List Value} {x : DataW H × List MemPlace}
    (h : DataW.trod enc Try.prog w base spare held fuel 38 cs = some x) : ∃ A n c l, cs = [.slice A n c] ∧ n ≤ c ∧ l.length = n ∧ StrsIn w A l := by
  rcases open_slice Try.underlying38 h with ⟨rfl, _⟩ | ⟨a, len, cap, m, n, D, Pl, rfl, hb, hl, hm, hmm, hx, hi⟩
  · exact ⟨none, 0, 0, [], rfl, Nat.le_refl _, rfl, by simp, fun h => absurd h (by simp)⟩
  · have hC : Try.prog.cellsOf 9 = 1 := by kernel_rfl
    obtain ⟨l, hll, hp⟩ := listOf (fun i (s : ByteArray) => w.cell? (a.add i) = some (.string s)) len fun i hlt => by
      have hlm : i < m := by rw [hmm]; split <;> omega
      obtain ⟨cs', hc, ht'⟩ := hi i hlm
      rw [hC] at hc
      obtain ⟨s, e0, _, _⟩ := DataW.trod_string Try.underlying9 ht'
      subst e0
      obtain ⟨_, _, hat⟩ := World.cells?_some hc
      have h1 := hat 0 (by omega)
      rw [Go.Deep.add_add, Nat.add_zero, Nat.mul_one] at h1
      exact ⟨s, by simpa using h1⟩
    exact ⟨_, _, _, l, rfl, hl, hll, by simp only [maxLen] at hm; omega, fun _ => ⟨a, rfl, fun j s hj => hp j s hj⟩⟩
end Go.Proofs.Ytjlkflbkejpcaaa

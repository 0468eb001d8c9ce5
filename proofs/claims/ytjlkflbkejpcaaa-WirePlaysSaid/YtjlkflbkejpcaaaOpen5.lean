/- Opening arguments: a slice of a network's calls as a list. -/
import Derived.Test.YtjlkflbkejpcaaaOpsW
import Derived.Test.YtjlkflbkejpcaaaOpen
import Derived.Deep.Strs
namespace Go.Proofs.Ytjlkflbkejpcaaa
open Go.ChangeShapes Go.WideShapes Go.Deep Go.RowKit
theorem cellsOpW : Try.prog.cellsOf 68 = 7 := by kernel_rfl
theorem cellsU8 : Try.prog.cellsOf 5 = 1 := by kernel_rfl
theorem cellsI : Try.prog.cellsOf 3 = 1 := by kernel_rfl
theorem cellsS : Try.prog.cellsOf 9 = 1 := by kernel_rfl
theorem cellsP : Try.prog.cellsOf 45 = 3 := by kernel_rfl
theorem opw_cells {H : Type} {enc : TypeId × Value → H} {w : World} {base : Nat} {spare : Nat → Bool} {held : Bool} {fuel : Nat} {cs : List Value} {x : DataW H × List MemPlace}
    (h : DataW.trod enc Try.prog w base spare held fuel 68 cs = some x) : ∃ o : OpW, cs = o.cells ∧ o.ok := by
  obtain ⟨ys, n, _, _, hl, hyl, hf⟩ := DataW.trod_struct Try.underlying68 h
  rw [cellsOpW] at hl
  match cs, hl with
  | [v0, v1, v2, v3, v4, v5, v6], _ =>
    match ys, hyl with
    | [y0, y1, y2, y3, y4], _ =>
      have h0 := hf 0 _ rfl
      have h1 := hf 1 _ rfl
      have h2 := hf 2 _ rfl
      have h3 := hf 3 _ rfl
      have h4 := hf 4 _ rfl
      simp only [List.getElem_toArray, List.getElem_cons_zero, List.getElem_cons_succ, cellsU8, cellsI, cellsP, List.drop_succ_cons, List.drop_zero, List.take_succ_cons, List.take_zero, List.getElem?_cons_zero, List.getElem?_cons_succ] at h0 h1 h2 h3 h4
      obtain ⟨z0, z1, z2, n', _, _, g0, g1, g2⟩ := trod_struct3 Try.underlying45 h4
      simp only [List.getElem_toArray, List.getElem_cons_zero, List.getElem_cons_succ, cellsI, cellsS, List.drop_succ_cons, List.drop_zero, List.take_succ_cons, List.take_zero] at g0 g1 g2
      obtain ⟨a0, e0, _, w0⟩ := DataW.trod_int Try.underlying5 h0
      obtain ⟨a1, e1, _, _⟩ := DataW.trod_int Try.underlying3 h1
      obtain ⟨a2, e2, _, _⟩ := DataW.trod_int Try.underlying3 h2
      obtain ⟨a3, e3, _, _⟩ := DataW.trod_int Try.underlying5 h3
      obtain ⟨a4, e4, _, _⟩ := DataW.trod_int Try.underlying3 g0
      obtain ⟨a5, e5, _, _⟩ := DataW.trod_int Try.underlying3 g1
      obtain ⟨a6, e6, _, _⟩ := DataW.trod_string Try.underlying9 g2
      simp only [List.cons.injEq, and_true] at e0 e1 e2 e3 e4 e5 e6
      subst e0 e1 e2 e3 e4 e5 e6
      exact ⟨⟨a0, a1, a2, a3, ⟨a4, a5, a6⟩⟩, rfl, wf_u8 w0⟩
theorem opsw_of {H : Type} {enc : TypeId × Value → H} {w : World} {base : Nat} {spare : Nat → Bool} {held : Bool} {fuel : Nat} {cs : List Value} {x : DataW H × List MemPlace}
    (h : DataW.trod enc Try.prog w base spare held fuel 64 cs = some x) : ∃ A n c l, cs = [.slice A n c] ∧ n ≤ c ∧ l.length = n ∧ CallsIn w A l := by
  rcases open_slice Try.underlying64 h with ⟨rfl, _⟩ | ⟨a, len, cap, m, n, D, Pl, rfl, hb, hl, hm, hmm, hx, hi⟩
  · exact ⟨none, 0, 0, [], rfl, Nat.le_refl _, rfl, by simp, fun h => absurd h (by simp)⟩
  · obtain ⟨l, hll, hp⟩ := listOf (fun i (o : OpW) => o.at' w (a.add (i * 7)) ∧ o.ok) len fun i hlt => by
      have hlm : i < m := by rw [hmm]; split <;> omega
      obtain ⟨cs', hc, ht'⟩ := hi i hlm
      rw [cellsOpW] at hc
      obtain ⟨o, rfl, ho⟩ := opw_cells ht'
      obtain ⟨_, _, hat⟩ := World.cells?_some hc
      have g : ∀ j, 0 < j → j < 7 → w.cell? ⟨(a.add (i * 7)).block, (a.add (i * 7)).off + j, none⟩ = o.cells[j]? := by
        intro j h0 hj
        rw [← addField a (i * 7) j h0, ← Go.Deep.add_add]
        exact hat j hj
      have g0 := hat 0 (by omega)
      rw [Go.Deep.add_add, Nat.add_zero] at g0
      exact ⟨o, ⟨g0, g 1 (by omega) (by omega), g 2 (by omega) (by omega), g 3 (by omega) (by omega), g 4 (by omega) (by omega), g 5 (by omega) (by omega), g 6 (by omega) (by omega)⟩, ho⟩
    exact ⟨_, _, _, l, rfl, hl, hll, by simp only [maxLen] at hm; omega, fun _ => ⟨a, rfl, fun j o hj => hp j o hj⟩⟩
end Go.Proofs.Ytjlkflbkejpcaaa

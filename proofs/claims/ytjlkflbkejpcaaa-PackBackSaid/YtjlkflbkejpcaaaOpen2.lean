/- Opening a list of operations, with its datum: for bounds on what came in. -/
import Derived.Test.YtjlkflbkejpcaaaOpen
import Derived.Test.YtjlkflbkejpcaaaRows
import Derived.SizedLaws
namespace Go.Proofs.Ytjlkflbkejpcaaa
open Go.ChangeShapes Go.WideShapes Go.Deep Go.RowKit
theorem wf_i64 {n : Int} (h : (Lit.int .i64 n).wf = true) : -9223372036854775808 ≤ n ∧ n ≤ 9223372036854775807 := by
  simpa [Lit.wf, IntKind.min, IntKind.max, IntKind.signed, IntKind.bits] using h
def OpV.datum {H : Type} (o : OpV) : DataW H := .agg [.lit (.int .u8 o.k), .lit (.int .i64 o.n), .lit (.string o.s.data.toList)]
theorem ops_of_data {H : Type} {enc : TypeId × Value → H} {w : World} {base : Nat} {spare : Nat → Bool} {held : Bool} {fuel : Nat} {cs : List Value} {x : DataW H × List MemPlace}
    (h : DataW.trod enc Try.prog w base spare held fuel 22 cs = some x) :
    ∃ A n c l, cs = [.slice A n c] ∧ n ≤ c ∧ l.length = n ∧ OpsIn w A l ∧ (∀ o ∈ l, -9223372036854775808 ≤ o.n ∧ o.n ≤ 9223372036854775807) ∧ ((x.1 = .nil ∧ l = []) ∨ ∃ sp, x.1 = .slice (l.map OpV.datum) sp) := by
  rcases open_slice_fields Try.underlying22 Try.underlying31 (by kernel_rfl) cellsOp h with ⟨rfl, hx⟩ | ⟨a, len, cap, m, D, Pl, rfl, _, hl, hm, hmm, hx, hf⟩
  · exact ⟨none, 0, 0, [], rfl, Nat.le_refl _, rfl, ⟨by simp, fun h => absurd h (by simp)⟩, by simp, .inl ⟨by rw [hx], rfl⟩⟩
  · have hlm : len ≤ m := by rw [hmm]; split <;> omega
    obtain ⟨l, hll, hp⟩ := listOf (fun i (o : OpV) => (o.at_ w (a.add (i * 3)) ∧ o.ok) ∧ (-9223372036854775808 ≤ o.n ∧ o.n ≤ 9223372036854775807) ∧ D i = o.datum) len fun i hi => by
      obtain ⟨ys, n, hD, _, hyl, hy⟩ := hf i (by omega)
      obtain ⟨v0, y0, c0, q0, h0⟩ := hy 0 _ rfl
      obtain ⟨v1, y1, c1, q1, h1⟩ := hy 1 _ rfl
      obtain ⟨v2, y2, c2, q2, h2⟩ := hy 2 _ rfl
      obtain ⟨k, e0, z0, wk⟩ := DataW.trod_int Try.underlying5 h0
      obtain ⟨nn, e1, z1, wn⟩ := DataW.trod_int Try.underlying3 h1
      obtain ⟨s, e2, z2, ws⟩ := DataW.trod_string Try.underlying9 h2
      simp only [List.cons.injEq, and_true] at e0 e1 e2
      subst e0 e1 e2
      refine ⟨⟨k, nn, s⟩, ⟨⟨by simpa using c0, ?_, ?_⟩, wf_u8 wk⟩, wf_i64 wn, ?_⟩
      · rw [← addField a (i * 3) 1 (by omega)]; exact c1
      · rw [← addField a (i * 3) 2 (by omega)]; exact c2
      · rw [hD]
        have hys : ys = [y0, y1, y2] := by
          apply List.ext_getElem?
          intro j
          match j with
          | 0 => rw [q0]; rfl
          | 1 => rw [q1]; rfl
          | 2 => rw [q2]; rfl
          | j + 3 =>
            rw [List.getElem?_eq_none (by rw [hyl]; simp), List.getElem?_eq_none (by simp)]
        rw [hys, z0, z1, z2]
        rfl
    refine ⟨_, _, _, l, rfl, hl, hll, ⟨by simp only [maxLen] at hm; omega, fun _ => ⟨a, rfl, fun j o hj => (hp j o hj).1⟩⟩, fun o ho => ?_, .inr ?_⟩
    · obtain ⟨j, hj⟩ := List.mem_iff_getElem?.1 ho
      exact (hp j o hj).2.1
    · rw [hx]
      refine ⟨(List.range (m - len)).map (fun j => D (len + j)), ?_⟩
      have key : (List.range len).map D = l.map OpV.datum := ?_
      · rw [key]
      apply List.ext_getElem
      · simp [hll]
      · intro j h1 h2
        simp only [List.getElem_map, List.getElem_range]
        exact (hp j _ (List.getElem?_eq_getElem (by simpa using h2))).2.2

theorem bulk_part {H : Type} {d : DataW H} {l : List (DataW H)} (h : d ∈ l) : Rows.uptoBulk d ≤ Rows.uptoBulkAll l := by
  induction l with
  | nil => cases h
  | cons x r ih =>
    simp only [Rows.uptoBulkAll]
    cases List.mem_cons.1 h with
    | inl e => subst e; omega
    | inr e => have := ih e; omega
theorem bulk_op {H : Type} (o : OpV) : Rows.uptoBulk (o.datum : DataW H) = o.s.size + 4 := by
  simp only [OpV.datum, Rows.uptoBulk, Rows.uptoBulkAll, Array.length_toList]
  have : o.s.data.size = o.s.size := rfl
  omega
/-- The text of an operation in a slice of small bulk. -/
theorem bulk_ops {H : Type} {l : List OpV} {d : DataW H} {ds : List (DataW H)} (hd : (d = .nil ∧ l = []) ∨ ∃ sp, d = .slice (l.map OpV.datum) sp) (hm : d ∈ ds) (hk : Rows.uptoSmall H ds = true) : ∀ o ∈ l, o.s.size ≤ 1048576 := by
  intro o ho
  have hb : Rows.uptoBulkAll ds ≤ 1048576 := of_decide_eq_true hk
  have h1 := bulk_part hm
  rcases hd with ⟨_, rfl⟩ | ⟨sp, rfl⟩
  · cases ho
  · have h2 : (o.datum : DataW H) ∈ l.map OpV.datum := List.mem_map.2 ⟨o, ho, rfl⟩
    have h3 := bulk_part h2
    rw [bulk_op] at h3
    simp only [Rows.uptoBulk] at h1
    omega
end Go.Proofs.Ytjlkflbkejpcaaa

/- Opening a Change that comes in by value. -/
import Derived.Test.YtpdgkgdaaapngaaOpK
import Derived.OpenShut
import Derived.ShutString
import Derived.Lib.SmallJoins
namespace Go.Proofs.Ytpdgkgdaaapngaa
open Go.ChangeShapes Go.WideShapes Go.Deep Go.RowKit Go.Joins
section
variable {H : Type} {enc : TypeId × Value → H} {P : Program} {w : World} {base : Nat} {spare : Nat → Bool} {held : Bool}
theorem open_agg5 {r : Reach} {b0 : Nat} {t : TypeId} {f0 f1 f2 f3 f4 : Field} {v : Value} {d : DataW H} {p : List MemPlace} (hs : P.underlying t = some (.struct #[f0, f1, f2, f3, f4])) (hone : oneCellFields P #[f0, f1, f2, f3, f4] = true) (hC : P.cellsOf t = 5)
    (hv : Value.okWide P w r b0 t v) (h : DataW.Trod enc P w base spare held t v d p) :
    ∃ (v0 v1 v2 v3 v4 : Value) (y0 y1 y2 y3 y4 : DataW H × List MemPlace) (n : Nat), v = .agg #[v0, v1, v2, v3, v4] ∧ d = .agg [y0.1, y1.1, y2.1, y3.1, y4.1] ∧ p = [y0, y1, y2, y3, y4].flatMap (·.2) ∧
      DataW.trod enc P w base spare held n f0.type [v0] = some y0 ∧ DataW.trod enc P w base spare held n f1.type [v1] = some y1 ∧ DataW.trod enc P w base spare held n f2.type [v2] = some y2 ∧ DataW.trod enc P w base spare held n f3.type [v3] = some y3 ∧ DataW.trod enc P w base spare held n f4.type [v4] = some y4 := by
  obtain ⟨cs, rfl, hsz⟩ := okWide_struct hs hv
  obtain ⟨l⟩ := cs
  obtain ⟨fuel, hf⟩ := h
  have hsz5 : l.length = 5 := by rw [← hC, ← hsz]; rfl
  match l, hsz5 with
  | [c0, c1, c2, c3, c4], _ =>
    obtain ⟨ys, n, _, hx, _, hyl, hy⟩ := DataW.trod_struct hs hf
    match ys, hyl with
    | [y0, y1, y2, y3, y4], _ =>
      have h0 := hy 0 f0 rfl
      have h1 := hy 1 f1 rfl
      have h2 := hy 2 f2 rfl
      have h3 := hy 3 f3 rfl
      have h4 := hy 4 f4 rfl
      obtain ⟨o0, k0⟩ := hone_of hone 0 f0 rfl
      obtain ⟨o1, k1⟩ := hone_of hone 1 f1 rfl
      obtain ⟨o2, k2⟩ := hone_of hone 2 f2 rfl
      obtain ⟨o3, k3⟩ := hone_of hone 3 f3 rfl
      obtain ⟨o4, k4⟩ := hone_of hone 4 f4 rfl
      simp only [Prod.mk.injEq] at hx
      refine ⟨c0, c1, c2, c3, c4, y0, y1, y2, y3, y4, n, rfl, hx.1, hx.2, ?_, ?_, ?_, ?_, ?_⟩
      · simpa [Value.cells, o0, k0] using h0
      · simpa [Value.cells, o1, k1] using h1
      · simpa [Value.cells, o2, k2] using h2
      · simpa [Value.cells, o3, k3] using h3
      · simpa [Value.cells, o4, k4] using h4
end
theorem wf_u16 {k : Int} (h : (Lit.int .u16 k).wf = true) : 0 ≤ k ∧ k ≤ 65535 := by
  simpa [Lit.wf, IntKind.min, IntKind.max, IntKind.signed, IntKind.bits] using h
theorem cellsCh : Try.prog.cellsOf 30 = 5 := by kernel_rfl
set_option maxRecDepth 100000 in
theorem open_change {H : Type} {enc : TypeId × Value → H} {w : World} {base : Nat} {spare : Nat → Bool} {held : Bool} {r : Reach} {b0 : Nat} {v : Value} {d : DataW H} {p : List MemPlace}
    (hv : Value.okWide Try.prog w r b0 30 v) (h : DataW.Trod enc Try.prog w base spare held 30 v d p) :
    ∃ (t o : ByteArray) (N At Bits : Int), v = .agg #[.string t, .string o, .int .u8 N, .int .u16 At, .int .u8 Bits] ∧ d = .agg [.lit (.string t.data.toList), .lit (.string o.data.toList), .lit (.int .u8 N), .lit (.int .u16 At), .lit (.int .u8 Bits)] ∧ p = [] ∧
      (0 ≤ N ∧ N ≤ 255) ∧ (0 ≤ At ∧ At ≤ 65535) := by
  obtain ⟨v0, v1, v2, v3, v4, y0, y1, y2, y3, y4, n, rfl, rfl, rfl, h0, h1, h2, h3, h4⟩ := open_agg5 Try.underlying30 (by kernel_rfl) cellsCh hv h
  obtain ⟨t, e0, rfl, _⟩ := DataW.trod_string Try.underlying9 h0
  obtain ⟨o, e1, rfl, _⟩ := DataW.trod_string Try.underlying9 h1
  obtain ⟨N, e2, rfl, w2⟩ := DataW.trod_int Try.underlying5 h2
  obtain ⟨At, e3, rfl, w3⟩ := DataW.trod_int Try.underlying28 h3
  obtain ⟨Bits, e4, rfl, _⟩ := DataW.trod_int Try.underlying5 h4
  simp only [List.cons.injEq, and_true] at e0 e1 e2 e3 e4
  subst e0 e1 e2 e3 e4
  exact ⟨t, o, N, At, Bits, rfl, rfl, rfl, wf_u8 w2, wf_u16 w3⟩
theorem sized_change {H : Type} {t o : ByteArray} {N At Bits : Int} {ds : List (DataW H)} {ts : List TypeId} {j : Nat} (hm : ds[j]? = some (.agg [.lit (.string t.data.toList), .lit (.string o.data.toList), .lit (.int .u8 N), .lit (.int .u16 At), .lit (.int .u8 Bits)])) (ht : ts[j]? = some 30)
    (h : (DataW.weightsEach Try.prog ts ds).all (· ≤ reachBytes) = true) : t.size ≤ 140737488351232 ∧ o.size ≤ 140737488351232 := by
  have key : ∀ s : ByteArray, s = t ∨ s = o → s.size ≤ 140737488351232 := by
    intro s hs
    have h1 : s.size ∈ DataW.weights (H := H) Try.prog 30 (.agg [.lit (.string t.data.toList), .lit (.string o.data.toList), .lit (.int .u8 N), .lit (.int .u16 At), .lit (.int .u8 Bits)]) := by
      rcases hs with rfl | rfl <;> simp [DataW.weights, Try.underlying30, DataW.weightsEach]
    have h2 := List.all_eq_true.1 h _ (DataW.weights_mem_each ht hm _ h1)
    have h3 := of_decide_eq_true h2
    simpa [reachBytes] using h3
  exact ⟨key t (.inl rfl), key o (.inr rfl)⟩
end Go.Proofs.Ytpdgkgdaaapngaa

/- Opening a list of a key's calls, with its datum: its texts are within the reach. -/
import Derived.Test.YtpdgkgdaaapngaaOpK
namespace Go.Proofs.Ytpdgkgdaaapngaa
open Go.ChangeShapes Go.WideShapes Go.Deep Go.RowKit
/-- A call: its kind, its text, its number. -/
structure OpV where
  k : Int
  s : ByteArray
  n : Int
def OpV.at_ (o : OpV) (w : World) (a : Addr) : Prop :=
  w.cell? a = some (.int .u8 o.k) ∧ w.cell? ⟨a.block, a.off + 1, none⟩ = some (.string o.s) ∧ w.cell? ⟨a.block, a.off + 2, none⟩ = some (.int .i64 o.n)
theorem cellLt {w : World} {a : Addr} {v : Value} (h : w.cell? a = some v) : a.block < w.heap.size := World.block_lt_of_cell? w a h
theorem OpV.at_chg {o : OpV} {S : Nat → Prop} {w w1 : World} {a : Addr} (h : o.at_ w a) (c : Chg S w w1) (hn : ¬ S a.block) : o.at_ w1 a :=
  ⟨cellChg h.1 c hn, cellChg h.2.1 c hn, cellChg h.2.2 c hn⟩
def OpV.ok (o : OpV) : Prop := (0 ≤ o.k ∧ o.k ≤ 255)
/-- A slice at A reads as the calls l. -/
def OpsIn (w : World) (A : Option Addr) (l : List OpV) : Prop :=
  l.length ≤ 9223372036854775807 ∧ (0 < l.length → ∃ a, A = some a ∧ ∀ (j : Nat) (o : OpV), l[j]? = some o → o.at_ w (a.add (j * 3)) ∧ o.ok)
theorem OpsIn.get {w : World} {A : Option Addr} {l : List OpV} (h : OpsIn w A l) (j : Nat) (hj : j < l.length) : ∃ a, A = some a ∧ (l[j]).at_ w (a.add (j * 3)) ∧ (l[j]).ok := by
  obtain ⟨a, ha, hc⟩ := h.2 (by omega)
  exact ⟨a, ha, hc j _ (List.getElem?_eq_getElem hj)⟩
theorem cellsOp : Try.prog.cellsOf 48 = 3 := by kernel_rfl
def OpV.datum {H : Type} (o : OpV) : DataW H := .agg [.lit (.int .u8 o.k), .lit (.string o.s.data.toList), .lit (.int .i64 o.n)]
theorem ops_of_data {H : Type} {enc : TypeId × Value → H} {w : World} {base : Nat} {spare : Nat → Bool} {held : Bool} {fuel : Nat} {cs : List Value} {x : DataW H × List MemPlace}
    (h : DataW.trod enc Try.prog w base spare held fuel 46 cs = some x) :
    ∃ A n c l, cs = [.slice A n c] ∧ n ≤ c ∧ l.length = n ∧ OpsIn w A l ∧ ((x.1 = .nil ∧ l = []) ∨ ∃ sp, x.1 = .slice (l.map OpV.datum) sp) := by
  rcases open_slice_fields Try.underlying46 Try.underlying48 (by kernel_rfl) cellsOp h with ⟨rfl, hx⟩ | ⟨a, len, cap, m, D, Pl, rfl, _, hl, hm, hmm, hx, hf⟩
  · exact ⟨none, 0, 0, [], rfl, Nat.le_refl _, rfl, ⟨by simp, fun h => absurd h (by simp)⟩, .inl ⟨by rw [hx], rfl⟩⟩
  · have hlm : len ≤ m := by rw [hmm]; split <;> omega
    obtain ⟨l, hll, hp⟩ := listOf (fun i (o : OpV) => (o.at_ w (a.add (i * 3)) ∧ o.ok) ∧ D i = o.datum) len fun i hi => by
      obtain ⟨ys, n, hD, _, hyl, hy⟩ := hf i (by omega)
      obtain ⟨v0, y0, c0, q0, h0⟩ := hy 0 _ rfl
      obtain ⟨v1, y1, c1, q1, h1⟩ := hy 1 _ rfl
      obtain ⟨v2, y2, c2, q2, h2⟩ := hy 2 _ rfl
      obtain ⟨k, e0, z0, wk⟩ := DataW.trod_int Try.underlying5 h0
      obtain ⟨nn, e1, z1, wn⟩ := DataW.trod_int Try.underlying3 h2
      obtain ⟨s, e2, z2, ws⟩ := DataW.trod_string Try.underlying9 h1
      simp only [List.cons.injEq, and_true] at e0 e1 e2
      subst e0 e1 e2
      refine ⟨⟨k, s, nn⟩, ⟨⟨by simpa using c0, ?_, ?_⟩, wf_u8 wk⟩, ?_⟩
      · rw [← addField a (i * 3) 1 (by omega)]; exact c1
      · rw [← addField a (i * 3) 2 (by omega)]; exact c2
      · rw [hD]
        have hys : ys = [y0, y1, y2] := by
          apply List.ext_getElem?
          intro j
          match j with
          | 0 => rw [q0]; rfl
          | 1 => rw [q1]; rfl
          | 2 => rw [q2]; rfl
          | j + 3 =>
            rw [List.getElem?_eq_none (by rw [hyl]; simp), List.getElem?_eq_none (by simp)]
        rw [hys, z0, z1, z2]
        rfl
    refine ⟨_, _, _, l, rfl, hl, hll, ⟨by simp only [maxLen] at hm; omega, fun _ => ⟨a, rfl, fun j o hj => (hp j o hj).1⟩⟩, .inr ?_⟩
    · rw [hx]
      refine ⟨(List.range (m - len)).map (fun j => D (len + j)), ?_⟩
      have key : (List.range len).map D = l.map OpV.datum := ?_
      · rw [key]
      apply List.ext_getElem
      · simp [hll]
      · intro j h1 h2
        simp only [List.getElem_map, List.getElem_range]
        exact (hp j _ (List.getElem?_eq_getElem (by simpa using h2))).2

theorem weight_op {H : Type} (o : OpV) : o.s.size ∈ DataW.weights (H := H) Try.prog 48 o.datum := by
  simp [OpV.datum, DataW.weights, Try.underlying48, DataW.weightsEach]
theorem sized_ops {H : Type} {l : List OpV} {d : DataW H} {ds : List (DataW H)} {ts : List TypeId} {j : Nat} (hd : (d = .nil ∧ l = []) ∨ ∃ sp, d = .slice (l.map OpV.datum) sp) (hm : ds[j]? = some d) (ht : ts[j]? = some 46)
    (h : (DataW.weightsEach Try.prog ts ds).all (· ≤ reachBytes) = true) : ∀ o ∈ l, o.s.size ≤ 140737488351232 := by
  intro o ho
  rcases hd with ⟨_, rfl⟩ | ⟨sp, rfl⟩
  · cases ho
  · have h1 : o.s.size ∈ DataW.weights Try.prog 46 (DataW.slice (l.map OpV.datum) sp : DataW H) := by
      simp only [DataW.weights, Try.underlying46, List.mem_cons, List.mem_append]
      exact .inr (.inl (weights_all (List.mem_map.2 ⟨o, ho, rfl⟩) (weight_op o)))
    have h2 := List.all_eq_true.1 h _ (DataW.weights_mem_each ht hm _ h1)
    have h3 := of_decide_eq_true h2
    simpa [reachBytes] using h3
end Go.Proofs.Ytpdgkgdaaapngaa

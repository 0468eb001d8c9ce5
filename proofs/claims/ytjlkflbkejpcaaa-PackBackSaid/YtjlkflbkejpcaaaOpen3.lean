/- The texts of a list of operations are within the reach. -/
import Derived.Test.YtjlkflbkejpcaaaOpen2
namespace Go.Proofs.Ytjlkflbkejpcaaa
open Go.RowKit
theorem weights_all {H : Type} {P : Program} {e : TypeId} {d : DataW H} {n : Nat} : ∀ {l : List (DataW H)}, d ∈ l → n ∈ d.weights P e → n ∈ DataW.weightsAll P e l
  | x :: l, hd, hn => by
    simp only [DataW.weightsAll, List.mem_append]
    rcases List.mem_cons.1 hd with rfl | h
    · exact .inl hn
    · exact .inr (weights_all h hn)
theorem weight_op {H : Type} (o : OpV) : o.s.size ∈ DataW.weights (H := H) Try.prog 31 o.datum := by
  simp [OpV.datum, DataW.weights, Try.underlying31, DataW.weightsEach]
theorem sized_ops {H : Type} {l : List OpV} {d : DataW H} {ds : List (DataW H)} {ts : List TypeId} {j : Nat} (hd : (d = .nil ∧ l = []) ∨ ∃ sp, d = .slice (l.map OpV.datum) sp) (hm : ds[j]? = some d) (ht : ts[j]? = some 22)
    (h : (DataW.weightsEach Try.prog ts ds).all (· ≤ reachBytes) = true) : ∀ o ∈ l, o.s.size ≤ 140737488351232 := by
  intro o ho
  rcases hd with ⟨_, rfl⟩ | ⟨sp, rfl⟩
  · cases ho
  · have h1 : o.s.size ∈ DataW.weights Try.prog 22 (DataW.slice (l.map OpV.datum) sp : DataW H) := by
      simp only [DataW.weights, Try.underlying22, List.mem_cons, List.mem_append]
      exact .inr (.inl (weights_all (List.mem_map.2 ⟨o, ho, rfl⟩) (weight_op o)))
    have h2 := List.all_eq_true.1 h _ (DataW.weights_mem_each ht hm _ h1)
    have h3 := of_decide_eq_true h2
    simpa [reachBytes] using h3
end Go.Proofs.Ytjlkflbkejpcaaa

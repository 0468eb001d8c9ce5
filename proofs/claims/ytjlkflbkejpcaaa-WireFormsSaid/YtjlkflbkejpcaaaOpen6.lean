/- Opening asks and replies: their texts are within the reach, their numbers are ints. -/
import Derived.Test.YtjlkflbkejpcaaaWf
import Derived.Test.YtjlkflbkejpcaaaOpen
import Derived.SizedLaws
namespace Go.Proofs.Ytjlkflbkejpcaaa
open Go.RowKit
theorem wf_i64 {n : Int} (h : (Lit.int .i64 n).wf = true) : n ≤ 9223372036854775807 := by
  have : (-9223372036854775808 : Int) ≤ n ∧ n ≤ 9223372036854775807 := by
    simpa [Lit.wf, IntKind.min, IntKind.max, IntKind.signed, IntKind.bits] using h
  exact this.2
theorem sized_of {H : Type} {ds : List (DataW H)} {ts : List TypeId} {j : Nat} {t : TypeId} {d : DataW H} {n : Nat} (hm : ds[j]? = some d) (ht : ts[j]? = some t) (h : (DataW.weightsEach Try.prog ts ds).all (· ≤ reachBytes) = true) (hn : n ∈ DataW.weights Try.prog t d) : n ≤ 140737488351232 := by
  have h2 := List.all_eq_true.1 h _ (DataW.weights_mem_each ht hm _ hn)
  have h3 := of_decide_eq_true h2
  simpa [reachBytes] using h3
theorem weight_ask {H : Type} (a b c : Lit) (s : ByteArray) : s.size ∈ DataW.weights (H := H) Try.prog 75 (.agg [.lit a, .lit (.string s.data.toList), .lit b, .lit c]) := by
  simp [DataW.weights, Try.underlying75, DataW.weightsEach]
theorem weight_rep {H : Type} (a b c : Lit) (s : ByteArray) : s.size ∈ DataW.weights (H := H) Try.prog 77 (.agg [.lit a, .lit b, .lit c, .lit (.string s.data.toList)]) := by
  simp [DataW.weights, Try.underlying77, DataW.weightsEach]
end Go.Proofs.Ytjlkflbkejpcaaa

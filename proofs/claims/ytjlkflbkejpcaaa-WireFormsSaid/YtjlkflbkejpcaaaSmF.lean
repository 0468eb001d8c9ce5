/- What 'same' computes, in plain Lean: are these bytes read as what was laid, to the end? -/
import Derived.Test.YtjlkflbkejpcaaaRdF
import Derived.Test.YtjlkflbkejpcaaaOps
namespace Go.Proofs.Ytjlkflbkejpcaaa
open Go.RowKit
/-- One operation read: its number, its text, the state behind it. -/
def readOp (x : RS) (o : OpV) : Int × ByteArray × RS :=
  if o.k % 6 = 0 then ((numF x 1).1, ⟨#[]⟩, (numF x 1).2) else if o.k % 6 = 1 then ((numF x 2).1, ⟨#[]⟩, (numF x 2).2) else if o.k % 6 = 2 then ((numF x 4).1, ⟨#[]⟩, (numF x 4).2)
  else if o.k % 6 = 3 then ((numF (eightF x) 8).1, ⟨#[]⟩, (numF (eightF x) 8).2) else if o.k % 6 = 4 then (o.n, textF x 65535) else (o.n, rawF x 32)
def okOp (x : RS) (o : OpV) : Prop := (readOp x o).2.2.2 = 0 ∧ (readOp x o).1 = o.n ∧ (4 ≤ o.k % 6 → (readOp x o).2.1 = o.s)
instance (x : RS) (o : OpV) : Decidable (okOp x o) := by unfold okOp; infer_instance
def sameG : RS → List OpV → Bool
  | x, [] => decide ((endF x).2 = 0)
  | x, o :: l => if okOp x o then sameG (readOp x o).2.2 l else false
def sameF (s : ByteArray) (l : List OpV) : Bool := sameG (s, 0) l
theorem sameG_drop (x : RS) (l : List OpV) (k : Nat) (h : k < l.length) : sameG x (l.drop k) = if okOp x (l[k]) then sameG (readOp x (l[k])).2.2 (l.drop (k + 1)) else false := by
  rw [List.drop_eq_getElem_cons h]
  rfl
theorem sameG_end (x : RS) (l : List OpV) (k : Nat) (h : ¬ k < l.length) : sameG x (l.drop k) = decide ((endF x).2 = 0) := by
  rw [List.drop_eq_nil_of_le (by omega)]
  rfl
theorem textF_small (x : RS) (m : Int) : (textF x m).2.1.size ≤ x.1.size := by
  unfold textF
  split
  · exact Nat.le_refl _
  · simp only
    have key : ∀ z : RS, z.1.size ≤ x.1.size → ∀ n : Int, (if (rawF z n).2.2 ≠ 0 then (x.1, (rawF z n).2.2) else (rawF z n).2).1.size ≤ x.1.size := by
      intro z hz n
      split
      · exact Nat.le_refl _
      · exact Nat.le_trans (rawF_size _ _).2 hz
    refine key _ ?_ _
    have k2 : ∀ b : Prop, ∀ _ : Decidable b, (if b then failF (numF x 2).2 4 else (numF x 2).2).1.size ≤ x.1.size := by
      intro b _
      split
      · rw [failF_left]; exact numF_size x 2
      · exact numF_size x 2
    exact k2 _ _
theorem readOp_size (x : RS) (o : OpV) : (readOp x o).2.2.1.size ≤ x.1.size := by
  unfold readOp
  split
  · exact numF_size x 1
  · split
    · exact numF_size x 2
    · split
      · exact numF_size x 4
      · split
        · have := numF_size (eightF x) 8
          rwa [eightF_left] at this
        · split
          · exact textF_small x 65535
          · exact (rawF_size x 32).2

end Go.Proofs.Ytjlkflbkejpcaaa
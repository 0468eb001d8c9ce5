/- WireFull's closure: the text of the i-th packet. -/
import Derived.Test.YtjlkflbkejpcaaaAsk
import Derived.Test.YtjlkflbkejpcaaaOps
namespace Go.Proofs.Ytjlkflbkejpcaaa
open Go.RowKit

/-- A slice at A reads as the strings l. -/
def StrsIn (w : World) (A : Option Addr) (l : List ByteArray) : Prop :=
  l.length ≤ 9223372036854775807 ∧ (0 < l.length → ∃ a, A = some a ∧ ∀ (j : Nat) (s : ByteArray), l[j]? = some s → w.cell? (a.add j) = some (.string s))
def bodyF (bs : List ByteArray) (i : Nat) : ByteArray := match bs[i]? with
  | some s => if 50 < s.size then s.extract 0 50 else s
  | none => ⟨#[98]⟩
theorem bodyF_size (bs : List ByteArray) (i : Nat) : (bodyF bs i).size ≤ 50 := by
  unfold bodyF
  split
  · split
    · rw [ByteArray.size_extract]
      omega
    · omega
  · decide
set_option maxRecDepth 100000 in
theorem body_calls (w : World) (B : Nat) (A : Option Addr) (bs : List ByteArray) (c : Nat) (hB : w.cell? ⟨B, 0, none⟩ = some (.slice A bs.length c)) (hl : StrsIn w A bs) (i : Nat) (hi : i ≤ 1000) :
    Calls Try.prog 16 #[.int .i64 i, .pointer (some ⟨B, 0, none⟩)] w fun e w' => e = .returned (.string (bodyF bs i)) ∧ ∃ n, w' = w.drewN n := by
  by_cases h : i < bs.length
  · obtain ⟨a, rfl, ha⟩ := hl.2 (by omega)
    obtain ⟨s, hs⟩ : ∃ s, bs[i]? = some s := ⟨_, List.getElem?_eq_getElem h⟩
    have c1 := ha i s hs
    have h1 : (i : Int) < (bs.length : Int) := by omega
    have h2 : (0 : Int) ≤ (i : Int) := by omega
    clear ha hl
    go_enter Try.func16, Try.ntmps16
    by_cases h5 : 50 < s.size
    · go_wp2
      go_quiet (fail)
      go_wp2
      go_ret
      exact ⟨by simp [bodyF, hs, h5], _, rfl⟩
    · go_wp2
      go_quiet (fail)
      go_wp2
      go_ret
      exact ⟨by simp [bodyF, hs, h5], _, rfl⟩
  · have h1 : ¬ (i : Int) < (bs.length : Int) := by omega
    go_enter Try.func16, Try.ntmps16
    go_wp2
    go_ret
    exact ⟨by simp [bodyF, List.getElem?_eq_none (Nat.le_of_not_lt h)], 0, rfl⟩
end Go.Proofs.Ytjlkflbkejpcaaa

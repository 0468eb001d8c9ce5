/- What PackLays comes to, in plain Lean: both writers' states go alike. -/
import Derived.Test.YtjlkflbkejpcaaaLay
import Derived.Test.YtjlkflbkejpcaaaWl
namespace Go.Proofs.Ytjlkflbkejpcaaa
open Go.RowKit

/-- Alike: both spoilt, or neither and the same bytes. -/
def Rel (s s2 : WS) : Prop := s.2 = s2.2 ∧ (s.2 = false → s.1 = s2.1)
theorem Rel.num {s s2 : WS} (h : Rel s s2) (x : Int) (n : Nat) : Rel (numW s x n) (numW s2 x n) := by
  unfold numW
  split
  · exact ⟨h.1, fun e => by simp only; rw [h.2 e]⟩
  · exact ⟨rfl, fun e => by cases e⟩
theorem fits_two (t : ByteArray) : fits t.size 2 ↔ ¬ 65535 < (t.size : Int) := by
  unfold fits
  constructor
  · intro h
    have := h.2 (by omega)
    simp only [Nat.reduceMul, Int.reducePow] at this
    omega
  · intro h
    refine ⟨by omega, fun _ => ?_⟩
    simp only [Nat.reduceMul, Int.reducePow]
    omega
theorem Rel.text {s s2 : WS} (h : Rel s s2) (t : ByteArray) : Rel (wtextW s t) (rtextW s2 t) := by
  unfold rtextW
  by_cases hb : 65535 < (t.size : Int)
  · rw [if_pos hb]
    unfold wtextW numW
    rw [if_neg (fun hf => (fits_two t).1 hf hb)]
    exact ⟨rfl, fun e => by cases e⟩
  · rw [if_neg hb]
    unfold wtextW
    have := h.num t.size 2
    exact ⟨this.1, fun e => by simp only; rw [this.2 e]⟩
theorem Rel.hash {s s2 : WS} (h : Rel s s2) (t : ByteArray) : Rel (whashW s t) (rhashW s2 t) := by
  unfold rhashW whashW
  by_cases hb : (t.size : Int) ≠ 32
  · rw [if_pos hb]
    refine ⟨?_, fun e => ?_⟩
    · have : decide (t.size ≠ 32) = true := decide_eq_true (by omega)
      simp [this]
    · have : decide (t.size ≠ 32) = true := decide_eq_true (by omega)
      simp [this] at e
  · rw [if_neg hb]
    have : decide (t.size ≠ 32) = false := decide_eq_false (by omega)
    refine ⟨by simp only [this, Bool.or_false]; exact h.1, fun e => ?_⟩
    simp only [this, Bool.or_false] at e
    simp only
    rw [h.2 e]
theorem Rel.lay {s s2 : WS} (h : Rel s s2) (k n : Int) (t : ByteArray) : Rel (layW s k n t) (rlayW s2 k n t) := by
  unfold layW rlayW
  split
  · exact h.num n 1
  · split
    · exact h.num n 2
    · split
      · exact h.num n 4
      · split
        · exact h.num n 8
        · split
          · exact h.text t
          · exact h.hash t
theorem layW_len (s : WS) (k n : Int) (t : ByteArray) : (layW s k n t).1.length ≤ s.1.length + t.size + 8 := by
  unfold layW
  split
  · have := numW_len s n 1; omega
  · split
    · have := numW_len s n 2; omega
    · split
      · have := numW_len s n 4; omega
      · split
        · have := numW_len s n 8; omega
        · split
          · unfold wtextW
            have := numW_len s t.size 2
            simp only [List.length_append, bsize]
            omega
          · unfold whashW
            simp only [List.length_append, bsize]
            omega
theorem rlayW_len (s : WS) (k n : Int) (t : ByteArray) : (rlayW s k n t).1.length ≤ s.1.length + t.size + 8 := by
  unfold rlayW
  split
  · have := numW_len s n 1; omega
  · split
    · have := numW_len s n 2; omega
    · split
      · have := numW_len s n 4; omega
      · split
        · have := numW_len s n 8; omega
        · split
          · unfold rtextW
            split
            · simp only; omega
            · unfold wtextW
              have := numW_len s t.size 2
              simp only [List.length_append, bsize]
              omega
          · unfold rhashW
            split
            · simp only; omega
            · simp only [List.length_append, bsize]
              omega
theorem wBytes_calls (w : World) (b : Nat) (r : Option Nat) (s : WS) (h : WrAt w 26 b r s.1 s.2) :
    Calls Try.prog 13 #[.pointer (some ⟨b, 0, none⟩)] w fun e w' => e = .returned (bytesV s) ∧ w = w' := by
  obtain ⟨bs, sp⟩ := s
  cases sp
  · exact wBytes_ok w b r bs h
  · exact wBytes_bad w b r bs h
theorem rwBytes_calls (w : World) (b : Nat) (r : Option Nat) (s : WS) (h : WrAt w 28 b r s.1 s.2) :
    Calls Try.prog 14 #[.pointer (some ⟨b, 0, none⟩)] w fun e w' => e = .returned (bytesV s) ∧ w = w' := by
  obtain ⟨bs, sp⟩ := s
  cases sp
  · exact rwBytes_ok w b r bs h
  · exact rwBytes_bad w b r bs h
theorem Rel.bytes {s s2 : WS} (h : Rel s s2) : ∃ (t : ByteArray) (e : Int), bytesV s = .tuple #[.string t, .int .i64 e] ∧ bytesV s2 = .tuple #[.string t, .int .i64 e] := by
  obtain ⟨bs, sp⟩ := s
  obtain ⟨bs2, sp2⟩ := s2
  obtain ⟨h1, h2⟩ := h
  simp only at h1 h2
  subst h1
  cases sp
  · obtain rfl := h2 rfl
    exact ⟨_, _, rfl, rfl⟩
  · exact ⟨_, _, rfl, rfl⟩
theorem S4.new {b b2 : Nat} {r r2 : Option Nat} {B : Nat} (hb : B ≤ b) (hb2 : B ≤ b2) (hr : ∀ k, r = some k → B ≤ k) (hr2 : ∀ k, r2 = some k → B ≤ k) : ∀ k, S4 b r b2 r2 k → B ≤ k := by
  rintro k ((rfl | h) | (rfl | h))
  · exact hb
  · exact hr k h
  · exact hb2
  · exact hr2 k h
theorem Next.new {w : World} {r r' : Option Nat} {B : Nat} (h : Next w r r') (hr : ∀ k, r = some k → B ≤ k) (hB : B ≤ w.heap.size) : ∀ k, r' = some k → B ≤ k := by
  intro k hk
  rcases h.mem hk with h | h
  · exact hr k h
  · omega
theorem Chg.freed {w w1 : World} {S : Nat → Prop} (h : Chg S w w1) (B : Nat) (hs : ∀ k, S k → B ≤ k) {w0 : World} (h0 : Chg (fun _ => False) w0 w) (hB : w0.heap.size ≤ B) : Chg (fun _ => False) w0 w1 :=
  h0.trans h fun k hk => .inr (Nat.le_trans hB (hs k hk))
/-- An operation as it may come in: its number is a machine's, its text is short. -/
def OpV.small (o : OpV) : Prop := o.n ≤ 9223372036854775807 ∧ o.s.size ≤ 1048576

end Go.Proofs.Ytjlkflbkejpcaaa
/- A writer that was made here, call by call. -/
import Derived.Test.YtjlkflbkejpcaaaWl
import Derived.Test.YtjlkflbkejpcaaaPw0
namespace Go.Proofs.Ytjlkflbkejpcaaa
open Go.RowKit

/-- The block b holds a writer that was made behind W; nothing of W has turned; at most m bytes. -/
structure Made (T : TypeId) (W w : World) (b : Nat) (s : WS) (m : Nat) : Prop where
  ex : ∃ r, WrAt w T b r s.1 s.2 ∧ ∀ k, r = some k → W.heap.size ≤ k
  bb : W.heap.size ≤ b
  ch : Chg (fun _ => False) W w
  le : s.1.length ≤ m
theorem Made.fresh (T : TypeId) (W : World) (b : Nat) (hb : W.heap.size = b) : Made T W (W.alloc (.cells #[.slice none 0 0, .bool false] T)) b ([], false) 0 := by
  subst hb
  exact ⟨⟨none, WrAt.fresh W T, fun _ e => by cases e⟩, Nat.le_refl _, (Chg.refl _ W).alloc _, Nat.le_refl _⟩
theorem Made.step {T : TypeId} {W w w1 : World} {b : Nat} {s s1 : WS} {m m1 : Nat} {r r1 : Option Nat} (h : Made T W w b s m) (hr : ∀ k, r = some k → W.heap.size ≤ k) (h1 : WrAt w1 T b r1 s1.1 s1.2) (hn : Next w r r1) (hc : Chg (fun k => k = b ∨ r = some k) w w1) (hl : s1.1.length ≤ m1) : Made T W w1 b s1 m1 :=
  ⟨⟨r1, h1, fun k e => (hn.mem e).elim (hr k) (fun h2 => Nat.le_trans h.ch.size h2)⟩, h.bb, h.ch.trans hc (fun k e => .inr (e.elim (fun e => by rw [e]; exact h.bb) (hr k))), hl⟩
theorem wtextW_len (s : WS) (t : ByteArray) : (wtextW s t).1.length ≤ s.1.length + t.size + 2 := by
  unfold wtextW
  have := numW_len s t.size 2
  simp only [List.length_append, bsize]
  omega
theorem rtextW_len (s : WS) (t : ByteArray) : (rtextW s t).1.length ≤ s.1.length + t.size + 2 := by
  unfold rtextW
  split
  · simp only; omega
  · unfold wtextW
    have := numW_len s t.size 2
    simp only [List.length_append, bsize]
    omega

theorem mByte_calls {W w : World} {b : Nat} {s : WS} {m : Nat} (h : Made 26 W w b s m) (x : Int) (hm : m + 8 ≤ 140737488355328) :
    Calls Try.prog 58 #[.pointer (some ⟨b, 0, none⟩), .int .i64 x] w fun e w' => e = .returned (.tuple #[]) ∧ Made 26 W w' b (numW s x 1) (m + 1) := by
  obtain ⟨r, h1, h2⟩ := h.ex
  have hl := h.le
  refine (wByte_calls w b r s x h1 (by omega)).mono ?_
  rintro e w' ⟨rfl, r', h3, h4, h5⟩
  exact ⟨rfl, h.step h2 h3 h4 h5 (by have := numW_len s x 1; omega)⟩
theorem mTwo_calls {W w : World} {b : Nat} {s : WS} {m : Nat} (h : Made 26 W w b s m) (x : Int) (hm : m + 8 ≤ 140737488355328) :
    Calls Try.prog 56 #[.pointer (some ⟨b, 0, none⟩), .int .i64 x] w fun e w' => e = .returned (.tuple #[]) ∧ Made 26 W w' b (numW s x 2) (m + 2) := by
  obtain ⟨r, h1, h2⟩ := h.ex
  have hl := h.le
  refine (wTwo_calls w b r s x h1 (by omega)).mono ?_
  rintro e w' ⟨rfl, r', h3, h4, h5⟩
  exact ⟨rfl, h.step h2 h3 h4 h5 (by have := numW_len s x 2; omega)⟩
theorem mFour_calls {W w : World} {b : Nat} {s : WS} {m : Nat} (h : Made 26 W w b s m) (x : Int) (hm : m + 8 ≤ 140737488355328) :
    Calls Try.prog 60 #[.pointer (some ⟨b, 0, none⟩), .int .i64 x] w fun e w' => e = .returned (.tuple #[]) ∧ Made 26 W w' b (numW s x 4) (m + 4) := by
  obtain ⟨r, h1, h2⟩ := h.ex
  have hl := h.le
  refine (wFour_calls w b r s x h1 (by omega)).mono ?_
  rintro e w' ⟨rfl, r', h3, h4, h5⟩
  exact ⟨rfl, h.step h2 h3 h4 h5 (by have := numW_len s x 4; omega)⟩
theorem mEight_calls {W w : World} {b : Nat} {s : WS} {m : Nat} (h : Made 26 W w b s m) (x : Int) (hm : m + 8 ≤ 140737488355328) :
    Calls Try.prog 61 #[.pointer (some ⟨b, 0, none⟩), .int .i64 x] w fun e w' => e = .returned (.tuple #[]) ∧ Made 26 W w' b (numW s x 8) (m + 8) := by
  obtain ⟨r, h1, h2⟩ := h.ex
  have hl := h.le
  refine (wEight_calls w b r s x h1 (by omega)).mono ?_
  rintro e w' ⟨rfl, r', h3, h4, h5⟩
  exact ⟨rfl, h.step h2 h3 h4 h5 (by have := numW_len s x 8; omega)⟩
theorem mText_calls {W w : World} {b : Nat} {s : WS} {m : Nat} (h : Made 26 W w b s m) (t : ByteArray) (hm : m + t.size + 8 ≤ 140737488355328) :
    Calls Try.prog 57 #[.pointer (some ⟨b, 0, none⟩), .string t] w fun e w' => e = .returned (.tuple #[]) ∧ Made 26 W w' b (wtextW s t) (m + t.size + 2) := by
  obtain ⟨r, h1, h2⟩ := h.ex
  have hl := h.le
  refine (wText_calls w b r s t h1 (by omega)).mono ?_
  rintro e w' ⟨rfl, r', h3, h4, h5⟩
  exact ⟨rfl, h.step h2 h3 h4 h5 (by have := wtextW_len s t; omega)⟩
theorem mBytes_calls {W w : World} {b : Nat} {s : WS} {m : Nat} (h : Made 26 W w b s m) :
    Calls Try.prog 13 #[.pointer (some ⟨b, 0, none⟩)] w fun e w' => e = .returned (bytesV s) ∧ w = w' := by
  obtain ⟨r, h1, _⟩ := h.ex
  exact wBytes_calls w b r s h1
end Go.Proofs.Ytjlkflbkejpcaaa

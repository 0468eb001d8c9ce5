/- One call of both writers, again, with no more asked of the text's size than what is laid. -/
import Derived.Test.YtjlkflbkejpcaaaLay
namespace Go.Proofs.Ytjlkflbkejpcaaa
open Go.RowKit

set_option maxRecDepth 100000 in
theorem layS0 (w : World) (b b2 : Nat) (r r2 : Option Nat) (s s2 : WS) (k n : Int) (t : ByteArray) (hk : k % 6 = 0) (hk0 : 0 ≤ k ∧ k ≤ 255) (hn : n ≤ 9223372036854775807) (h : Two w b r s b2 r2 s2) (hl : s.1.length + 8 ≤ 140737488355328) (hl2 : s2.1.length + 8 ≤ 140737488355328) :
    Calls Try.prog 12 #[.pointer (some ⟨b, 0, none⟩), .pointer (some ⟨b2, 0, none⟩), .agg #[.int .u8 k, .int .i64 n, .string t]] w fun e w' => e = .returned (.tuple #[]) ∧ ∃ r' r2', Two w' b r' (numW s n 1) b2 r2' (numW s2 n 1) ∧ Next w r r' ∧ Next w r2 r2' ∧ Chg (S4 b r b2 r2) w w' := by
  have HT := Lib.hid (h.none_ ((Chg.refl (fun _ => False) w).alloc (.cells #[.int .u8 k, .int .i64 n, .string t] 31)))
  have HX : Hid ((w.alloc (.cells #[.int .u8 k, .int .i64 n, .string t] 31)).heap[w.heap.size]? = some (.cells #[.int .u8 k, .int .i64 n, .string t] 31 (0, 0))) := Lib.hid (blkAlloc w _)
  have NB : Hid (¬ (w.heap.size = b ∨ r = some w.heap.size)) := Lib.hid (fun e => e.elim (fun e => by have := h.l.lt; omega) (fun e => by have := h.l.rlt e; omega))
  have HL := Lib.hid hl
  have HL2 := Lib.hid hl2
  have HN := Lib.hid hn
  clear h hl hl2 hn
  go_enter Try.func12, Try.ntmps12
  go_wp2_with (first
    | (go_at_call 58; refine (wByte_calls _ b r s n (by exact HT.out.l) (by have := HL.out; omega)).mono ?_; rintro e w1 ⟨rfl, r', h1, n1, g1⟩; have HT1 := Lib.hid (HT.out.stepL h1 n1 g1); have c1 := blkCell (g1.obj HX.out NB.out) 1; have N1 := Lib.hid n1; have G1 := Lib.hid g1; clear h1 n1 g1)
    | (go_at_call 59; refine (rwNumber_calls _ b2 r2 s2 n 1 (by exact HT1.out.x) (by omega) HN.out (by have := HL2.out; omega)).mono ?_; rintro e w2 ⟨rfl, r2', h2, n2, g2⟩; have HT2 := Lib.hid (HT1.out.stepR h2 n2 g2); have N2 := Lib.hid n2; have G2 := Lib.hid g2; clear h2 n2 g2))
  go_end0
  have hs : w.heap.size ≤ (w.alloc (.cells #[.int .u8 k, .int .i64 n, .string t] 31)).heap.size := by simp
  exact ⟨rfl, r', r2', HT2.out, Next.trans (w := w) (.inl rfl) N1.out hs, Next.trans (w := w) (.inl rfl) N2.out (Nat.le_trans hs G1.out.size), ((Chg.refl (S4 b r b2 r2) w).alloc _).trans (S4.two G1.out G2.out) (fun k hk => .inl hk)⟩


set_option maxRecDepth 100000 in
theorem layS1 (w : World) (b b2 : Nat) (r r2 : Option Nat) (s s2 : WS) (k n : Int) (t : ByteArray) (hk : k % 6 = 1) (hk0 : 0 ≤ k ∧ k ≤ 255) (hn : n ≤ 9223372036854775807) (h : Two w b r s b2 r2 s2) (hl : s.1.length + 8 ≤ 140737488355328) (hl2 : s2.1.length + 8 ≤ 140737488355328) :
    Calls Try.prog 12 #[.pointer (some ⟨b, 0, none⟩), .pointer (some ⟨b2, 0, none⟩), .agg #[.int .u8 k, .int .i64 n, .string t]] w fun e w' => e = .returned (.tuple #[]) ∧ ∃ r' r2', Two w' b r' (numW s n 2) b2 r2' (numW s2 n 2) ∧ Next w r r' ∧ Next w r2 r2' ∧ Chg (S4 b r b2 r2) w w' := by
  have HT := Lib.hid (h.none_ ((Chg.refl (fun _ => False) w).alloc (.cells #[.int .u8 k, .int .i64 n, .string t] 31)))
  have HX : Hid ((w.alloc (.cells #[.int .u8 k, .int .i64 n, .string t] 31)).heap[w.heap.size]? = some (.cells #[.int .u8 k, .int .i64 n, .string t] 31 (0, 0))) := Lib.hid (blkAlloc w _)
  have NB : Hid (¬ (w.heap.size = b ∨ r = some w.heap.size)) := Lib.hid (fun e => e.elim (fun e => by have := h.l.lt; omega) (fun e => by have := h.l.rlt e; omega))
  have HL := Lib.hid hl
  have HL2 := Lib.hid hl2
  have HN := Lib.hid hn
  clear h hl hl2 hn
  go_enter Try.func12, Try.ntmps12
  go_wp2_with (first
    | (go_at_call 56; refine (wTwo_calls _ b r s n (by exact HT.out.l) (by have := HL.out; omega)).mono ?_; rintro e w1 ⟨rfl, r', h1, n1, g1⟩; have HT1 := Lib.hid (HT.out.stepL h1 n1 g1); have c1 := blkCell (g1.obj HX.out NB.out) 1; have N1 := Lib.hid n1; have G1 := Lib.hid g1; clear h1 n1 g1)
    | (go_at_call 59; refine (rwNumber_calls _ b2 r2 s2 n 2 (by exact HT1.out.x) (by omega) HN.out (by have := HL2.out; omega)).mono ?_; rintro e w2 ⟨rfl, r2', h2, n2, g2⟩; have HT2 := Lib.hid (HT1.out.stepR h2 n2 g2); have N2 := Lib.hid n2; have G2 := Lib.hid g2; clear h2 n2 g2))
  go_end0
  have hs : w.heap.size ≤ (w.alloc (.cells #[.int .u8 k, .int .i64 n, .string t] 31)).heap.size := by simp
  exact ⟨rfl, r', r2', HT2.out, Next.trans (w := w) (.inl rfl) N1.out hs, Next.trans (w := w) (.inl rfl) N2.out (Nat.le_trans hs G1.out.size), ((Chg.refl (S4 b r b2 r2) w).alloc _).trans (S4.two G1.out G2.out) (fun k hk => .inl hk)⟩


set_option maxRecDepth 100000 in
theorem layS2 (w : World) (b b2 : Nat) (r r2 : Option Nat) (s s2 : WS) (k n : Int) (t : ByteArray) (hk : k % 6 = 2) (hk0 : 0 ≤ k ∧ k ≤ 255) (hn : n ≤ 9223372036854775807) (h : Two w b r s b2 r2 s2) (hl : s.1.length + 8 ≤ 140737488355328) (hl2 : s2.1.length + 8 ≤ 140737488355328) :
    Calls Try.prog 12 #[.pointer (some ⟨b, 0, none⟩), .pointer (some ⟨b2, 0, none⟩), .agg #[.int .u8 k, .int .i64 n, .string t]] w fun e w' => e = .returned (.tuple #[]) ∧ ∃ r' r2', Two w' b r' (numW s n 4) b2 r2' (numW s2 n 4) ∧ Next w r r' ∧ Next w r2 r2' ∧ Chg (S4 b r b2 r2) w w' := by
  have HT := Lib.hid (h.none_ ((Chg.refl (fun _ => False) w).alloc (.cells #[.int .u8 k, .int .i64 n, .string t] 31)))
  have HX : Hid ((w.alloc (.cells #[.int .u8 k, .int .i64 n, .string t] 31)).heap[w.heap.size]? = some (.cells #[.int .u8 k, .int .i64 n, .string t] 31 (0, 0))) := Lib.hid (blkAlloc w _)
  have NB : Hid (¬ (w.heap.size = b ∨ r = some w.heap.size)) := Lib.hid (fun e => e.elim (fun e => by have := h.l.lt; omega) (fun e => by have := h.l.rlt e; omega))
  have HL := Lib.hid hl
  have HL2 := Lib.hid hl2
  have HN := Lib.hid hn
  clear h hl hl2 hn
  go_enter Try.func12, Try.ntmps12
  go_wp2_with (first
    | (go_at_call 60; refine (wFour_calls _ b r s n (by exact HT.out.l) (by have := HL.out; omega)).mono ?_; rintro e w1 ⟨rfl, r', h1, n1, g1⟩; have HT1 := Lib.hid (HT.out.stepL h1 n1 g1); have c1 := blkCell (g1.obj HX.out NB.out) 1; have N1 := Lib.hid n1; have G1 := Lib.hid g1; clear h1 n1 g1)
    | (go_at_call 59; refine (rwNumber_calls _ b2 r2 s2 n 4 (by exact HT1.out.x) (by omega) HN.out (by have := HL2.out; omega)).mono ?_; rintro e w2 ⟨rfl, r2', h2, n2, g2⟩; have HT2 := Lib.hid (HT1.out.stepR h2 n2 g2); have N2 := Lib.hid n2; have G2 := Lib.hid g2; clear h2 n2 g2))
  go_end0
  have hs : w.heap.size ≤ (w.alloc (.cells #[.int .u8 k, .int .i64 n, .string t] 31)).heap.size := by simp
  exact ⟨rfl, r', r2', HT2.out, Next.trans (w := w) (.inl rfl) N1.out hs, Next.trans (w := w) (.inl rfl) N2.out (Nat.le_trans hs G1.out.size), ((Chg.refl (S4 b r b2 r2) w).alloc _).trans (S4.two G1.out G2.out) (fun k hk => .inl hk)⟩


set_option maxRecDepth 100000 in
theorem layS3 (w : World) (b b2 : Nat) (r r2 : Option Nat) (s s2 : WS) (k n : Int) (t : ByteArray) (hk : k % 6 = 3) (hk0 : 0 ≤ k ∧ k ≤ 255) (hn : n ≤ 9223372036854775807) (h : Two w b r s b2 r2 s2) (hl : s.1.length + 8 ≤ 140737488355328) (hl2 : s2.1.length + 8 ≤ 140737488355328) :
    Calls Try.prog 12 #[.pointer (some ⟨b, 0, none⟩), .pointer (some ⟨b2, 0, none⟩), .agg #[.int .u8 k, .int .i64 n, .string t]] w fun e w' => e = .returned (.tuple #[]) ∧ ∃ r' r2', Two w' b r' (numW s n 8) b2 r2' (numW s2 n 8) ∧ Next w r r' ∧ Next w r2 r2' ∧ Chg (S4 b r b2 r2) w w' := by
  have HT := Lib.hid (h.none_ ((Chg.refl (fun _ => False) w).alloc (.cells #[.int .u8 k, .int .i64 n, .string t] 31)))
  have HX : Hid ((w.alloc (.cells #[.int .u8 k, .int .i64 n, .string t] 31)).heap[w.heap.size]? = some (.cells #[.int .u8 k, .int .i64 n, .string t] 31 (0, 0))) := Lib.hid (blkAlloc w _)
  have NB : Hid (¬ (w.heap.size = b ∨ r = some w.heap.size)) := Lib.hid (fun e => e.elim (fun e => by have := h.l.lt; omega) (fun e => by have := h.l.rlt e; omega))
  have HL := Lib.hid hl
  have HL2 := Lib.hid hl2
  have HN := Lib.hid hn
  clear h hl hl2 hn
  go_enter Try.func12, Try.ntmps12
  go_wp2_with (first
    | (go_at_call 61; refine (wEight_calls _ b r s n (by exact HT.out.l) (by have := HL.out; omega)).mono ?_; rintro e w1 ⟨rfl, r', h1, n1, g1⟩; have HT1 := Lib.hid (HT.out.stepL h1 n1 g1); have c1 := blkCell (g1.obj HX.out NB.out) 1; have N1 := Lib.hid n1; have G1 := Lib.hid g1; clear h1 n1 g1)
    | (go_at_call 59; refine (rwNumber_calls _ b2 r2 s2 n 8 (by exact HT1.out.x) (by omega) HN.out (by have := HL2.out; omega)).mono ?_; rintro e w2 ⟨rfl, r2', h2, n2, g2⟩; have HT2 := Lib.hid (HT1.out.stepR h2 n2 g2); have N2 := Lib.hid n2; have G2 := Lib.hid g2; clear h2 n2 g2))
  go_end0
  have hs : w.heap.size ≤ (w.alloc (.cells #[.int .u8 k, .int .i64 n, .string t] 31)).heap.size := by simp
  exact ⟨rfl, r', r2', HT2.out, Next.trans (w := w) (.inl rfl) N1.out hs, Next.trans (w := w) (.inl rfl) N2.out (Nat.le_trans hs G1.out.size), ((Chg.refl (S4 b r b2 r2) w).alloc _).trans (S4.two G1.out G2.out) (fun k hk => .inl hk)⟩


/-- What of the text is laid. -/
def need (k : Int) (t : ByteArray) : Nat := if k % 6 = 4 ∨ k % 6 = 5 then t.size else 0
theorem lay_calls2 (w : World) (b b2 : Nat) (r r2 : Option Nat) (s s2 : WS) (k n : Int) (t : ByteArray) (hk0 : 0 ≤ k ∧ k ≤ 255) (hn : n ≤ 9223372036854775807) (h : Two w b r s b2 r2 s2) (hl : s.1.length + need k t + 8 ≤ 140737488355328) (hl2 : s2.1.length + need k t + 8 ≤ 140737488355328) :
    Calls Try.prog 12 #[.pointer (some ⟨b, 0, none⟩), .pointer (some ⟨b2, 0, none⟩), .agg #[.int .u8 k, .int .i64 n, .string t]] w fun e w' => e = .returned (.tuple #[]) ∧ ∃ r' r2', Two w' b r' (layW s k n t) b2 r2' (rlayW s2 k n t) ∧ Next w r r' ∧ Next w r2 r2' ∧ Chg (S4 b r b2 r2) w w' := by
  unfold need at hl hl2
  rcases six hk0.1 with hk | hk | hk | hk | hk | hk
  · simp only [layW, rlayW, hk, Int.reduceEq, if_true, if_false, or_self] at hl hl2 ⊢
    exact layS0 w b b2 r r2 s s2 k n t hk hk0 hn h hl hl2
  · simp only [layW, rlayW, hk, Int.reduceEq, if_true, if_false, or_self] at hl hl2 ⊢
    exact layS1 w b b2 r r2 s s2 k n t hk hk0 hn h hl hl2
  · simp only [layW, rlayW, hk, Int.reduceEq, if_true, if_false, or_self] at hl hl2 ⊢
    exact layS2 w b b2 r r2 s s2 k n t hk hk0 hn h hl hl2
  · simp only [layW, rlayW, hk, Int.reduceEq, if_true, if_false, or_self] at hl hl2 ⊢
    exact layS3 w b b2 r r2 s s2 k n t hk hk0 hn h hl hl2
  · simp only [layW, rlayW, hk, Int.reduceEq, if_true, if_false, or_true, true_or] at hl hl2 ⊢
    exact lay4 w b b2 r r2 s s2 k n t hk hk0 hn h hl hl2
  · simp only [layW, rlayW, hk, Int.reduceEq, if_true, if_false, or_true, true_or] at hl hl2 ⊢
    exact lay5 w b b2 r r2 s s2 k n t hk hk0 hn h hl hl2
end Go.Proofs.Ytjlkflbkejpcaaa
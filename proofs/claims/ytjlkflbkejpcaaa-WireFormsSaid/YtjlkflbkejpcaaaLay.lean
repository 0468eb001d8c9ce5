/- One call of both writers. -/
import Derived.Test.YtjlkflbkejpcaaaRw2
import Derived.Test.YtjlkflbkejpcaaaOps
namespace Go.Proofs.Ytjlkflbkejpcaaa
open Go.RowKit

/-- Two writers that share nothing. -/
structure Two (w : World) (b : Nat) (r : Option Nat) (s : WS) (b2 : Nat) (r2 : Option Nat) (s2 : WS) : Prop where
  l : WrAt w 26 b r s.1 s.2
  x : WrAt w 28 b2 r2 s2.1 s2.2
  d : ∀ k, r = some k → r2 ≠ some k
theorem WrAt.heap {w : World} {T b : Nat} {r : Option Nat} {bs : List UInt8} {sp : Bool} (h : WrAt w T b r bs sp) : ∃ cs, w.heap[b]? = some (.cells cs T (0, 0)) := by
  obtain ⟨A, m, c, h1, _⟩ := h
  exact ⟨_, h1⟩
section
variable {w w1 : World} {b b2 : Nat} {r r' r2 r2' : Option Nat} {s s' s2 s2' : WS}
theorem Two.ne (h : Two w b r s b2 r2 s2) : b ≠ b2 := by
  obtain ⟨_, h1⟩ := h.l.heap
  obtain ⟨_, h2⟩ := h.x.heap
  exact blkNe h1 h2 (by decide)
theorem Two.rb (h : Two w b r s b2 r2 s2) : r ≠ some b2 := by
  obtain ⟨_, h2⟩ := h.x.heap
  exact h.l.rne (by decide) h2 (by decide)
theorem Two.rb2 (h : Two w b r s b2 r2 s2) : r2 ≠ some b := by
  obtain ⟨_, h2⟩ := h.l.heap
  exact h.x.rne (by decide) h2 (by decide)
theorem Two.stepL (h : Two w b r s b2 r2 s2) (h1 : WrAt w1 26 b r' s'.1 s'.2) (hn : Next w r r') (hc : Chg (fun k => k = b ∨ r = some k) w w1) : Two w1 b r' s' b2 r2 s2 where
  l := h1
  x := h.x.chg hc (fun e => e.elim (fun e => h.ne e.symm) h.rb) (fun k hk e => e.elim (fun e => h.rb2 (e ▸ hk)) (fun e => h.d k e hk))
  d := fun k hk hk2 => (hn.mem hk).elim (fun e => h.d k e hk2) (fun e => by have := h.x.rlt hk2; omega)
theorem Two.stepR (h : Two w b r s b2 r2 s2) (h1 : WrAt w1 28 b2 r2' s2'.1 s2'.2) (hn : Next w r2 r2') (hc : Chg (fun k => k = b2 ∨ r2 = some k) w w1) : Two w1 b r s b2 r2' s2' where
  x := h1
  l := h.l.chg hc (fun e => e.elim (fun e => h.ne e) h.rb2) (fun k hk e => e.elim (fun e => h.rb (e ▸ hk)) (fun e => h.d k hk e))
  d := fun k hk hk2 => (hn.mem hk2).elim (fun e => h.d k hk e) (fun e => by have := h.l.rlt hk; omega)
theorem Two.none_ (h : Two w b r s b2 r2 s2) (hc : Chg (fun _ => False) w w1) : Two w1 b r s b2 r2 s2 := ⟨h.l.chg hc id (fun _ _ => id), h.x.chg hc id (fun _ _ => id), h.d⟩
end
/-- Which blocks two writers may write. -/
def S4 (b : Nat) (r : Option Nat) (b2 : Nat) (r2 : Option Nat) (k : Nat) : Prop := (k = b ∨ r = some k) ∨ (k = b2 ∨ r2 = some k)
theorem S4.two {w w1 w2 : World} {b b2 : Nat} {r r2 : Option Nat} (h1 : Chg (fun k => k = b ∨ r = some k) w w1) (h2 : Chg (fun k => k = b2 ∨ r2 = some k) w1 w2) : Chg (S4 b r b2 r2) w w2 :=
  (h1.mono (S' := S4 b r b2 r2) fun k hk => .inl (.inl hk)).trans h2 fun k hk => .inl (.inr hk)
def layW (s : WS) (k n : Int) (t : ByteArray) : WS :=
  if k % 6 = 0 then numW s n 1 else if k % 6 = 1 then numW s n 2 else if k % 6 = 2 then numW s n 4 else if k % 6 = 3 then numW s n 8 else if k % 6 = 4 then wtextW s t else whashW s t
def rlayW (s : WS) (k n : Int) (t : ByteArray) : WS :=
  if k % 6 = 0 then numW s n 1 else if k % 6 = 1 then numW s n 2 else if k % 6 = 2 then numW s n 4 else if k % 6 = 3 then numW s n 8 else if k % 6 = 4 then rtextW s t else rhashW s t

set_option maxRecDepth 100000 in
theorem lay0 (w : World) (b b2 : Nat) (r r2 : Option Nat) (s s2 : WS) (k n : Int) (t : ByteArray) (hk : k % 6 = 0) (hk0 : 0 ≤ k ∧ k ≤ 255) (hn : n ≤ 9223372036854775807) (h : Two w b r s b2 r2 s2) (hl : s.1.length + t.size + 8 ≤ 140737488355328) (hl2 : s2.1.length + t.size + 8 ≤ 140737488355328) :
    Calls Try.prog 12 #[.pointer (some ⟨b, 0, none⟩), .pointer (some ⟨b2, 0, none⟩), .agg #[.int .u8 k, .int .i64 n, .string t]] w fun e w' => e = .returned (.tuple #[]) ∧ ∃ r' r2', Two w' b r' (numW s n 1) b2 r2' (numW s2 n 1) ∧ Next w r r' ∧ Next w r2 r2' ∧ Chg (S4 b r b2 r2) w w' := by
  have HT := Lib.hid (h.none_ ((Chg.refl (fun _ => False) w).alloc (.cells #[.int .u8 k, .int .i64 n, .string t] 31)))
  have HX : Hid ((w.alloc (.cells #[.int .u8 k, .int .i64 n, .string t] 31)).heap[w.heap.size]? = some (.cells #[.int .u8 k, .int .i64 n, .string t] 31 (0, 0))) := Lib.hid (blkAlloc w _)
  have NB : Hid (¬ (w.heap.size = b ∨ r = some w.heap.size)) := Lib.hid (fun e => e.elim (fun e => by have := h.l.lt; omega) (fun e => by have := h.l.rlt e; omega))
  have HL := Lib.hid hl
  have HL2 := Lib.hid hl2
  have HN := Lib.hid hn
  clear h hl hl2 hn
  go_enter Try.func12, Try.ntmps12
  go_wp2_with (first
    | (go_at_call 58; refine (wByte_calls _ b r s n (by exact HT.out.l) (by have := HL.out; omega)).mono ?_; rintro e w1 ⟨rfl, r', h1, n1, g1⟩; have HT1 := Lib.hid (HT.out.stepL h1 n1 g1); have c1 := blkCell (g1.obj HX.out NB.out) 1; have N1 := Lib.hid n1; have G1 := Lib.hid g1; clear h1 n1 g1)
    | (go_at_call 59; refine (rwNumber_calls _ b2 r2 s2 n 1 (by exact HT1.out.x) (by omega) HN.out (by have := HL2.out; omega)).mono ?_; rintro e w2 ⟨rfl, r2', h2, n2, g2⟩; have HT2 := Lib.hid (HT1.out.stepR h2 n2 g2); have N2 := Lib.hid n2; have G2 := Lib.hid g2; clear h2 n2 g2))
  go_end0
  have hs : w.heap.size ≤ (w.alloc (.cells #[.int .u8 k, .int .i64 n, .string t] 31)).heap.size := by simp
  exact ⟨rfl, r', r2', HT2.out, Next.trans (w := w) (.inl rfl) N1.out hs, Next.trans (w := w) (.inl rfl) N2.out (Nat.le_trans hs G1.out.size), ((Chg.refl (S4 b r b2 r2) w).alloc _).trans (S4.two G1.out G2.out) (fun k hk => .inl hk)⟩

set_option maxRecDepth 100000 in
theorem layn0 (w : World) (b2 : Nat) (r2 : Option Nat) (s2 : WS) (k n : Int) (t : ByteArray) (hk : k % 6 = 0) (hk0 : 0 ≤ k ∧ k ≤ 255) (hn : n ≤ 9223372036854775807) (h : WrAt w 28 b2 r2 s2.1 s2.2) (hl2 : s2.1.length + t.size + 8 ≤ 140737488355328) :
    Calls Try.prog 12 #[.pointer none, .pointer (some ⟨b2, 0, none⟩), .agg #[.int .u8 k, .int .i64 n, .string t]] w fun e w' => e = .returned (.tuple #[]) ∧ ∃ r2', WrAt w' 28 b2 r2' (numW s2 n 1).1 (numW s2 n 1).2 ∧ Next w r2 r2' ∧ Chg (fun k => k = b2 ∨ r2 = some k) w w' := by
  have HT := Lib.hid (h.chg ((Chg.refl (fun _ => False) w).alloc (.cells #[.int .u8 k, .int .i64 n, .string t] 31)) id (fun _ _ => id))
  have HL2 := Lib.hid hl2
  have HN := Lib.hid hn
  clear h hl2 hn
  go_enter Try.func12, Try.ntmps12
  go_wp2_with (first
    | (go_at_call 58; refine (wByte_nil _ _).mono ?_; rintro e w1 ⟨rfl, rfl⟩)
    | (go_at_call 59; refine (rwNumber_calls _ b2 r2 s2 n 1 (by exact HT.out) (by omega) HN.out (by have := HL2.out; omega)).mono ?_; rintro e w2 ⟨rfl, r2', h2, n2, g2⟩; have HT2 := Lib.hid h2; have N2 := Lib.hid n2; have G2 := Lib.hid g2; clear h2 n2 g2))
  go_end0
  have hs : w.heap.size ≤ (w.alloc (.cells #[.int .u8 k, .int .i64 n, .string t] 31)).heap.size := by simp
  exact ⟨rfl, r2', HT2.out, Next.trans (w := w) (.inl rfl) N2.out hs, ((Chg.refl (fun k => k = b2 ∨ r2 = some k) w).alloc _).trans G2.out (fun k hk => .inl hk)⟩

set_option maxRecDepth 100000 in
theorem lay1 (w : World) (b b2 : Nat) (r r2 : Option Nat) (s s2 : WS) (k n : Int) (t : ByteArray) (hk : k % 6 = 1) (hk0 : 0 ≤ k ∧ k ≤ 255) (hn : n ≤ 9223372036854775807) (h : Two w b r s b2 r2 s2) (hl : s.1.length + t.size + 8 ≤ 140737488355328) (hl2 : s2.1.length + t.size + 8 ≤ 140737488355328) :
    Calls Try.prog 12 #[.pointer (some ⟨b, 0, none⟩), .pointer (some ⟨b2, 0, none⟩), .agg #[.int .u8 k, .int .i64 n, .string t]] w fun e w' => e = .returned (.tuple #[]) ∧ ∃ r' r2', Two w' b r' (numW s n 2) b2 r2' (numW s2 n 2) ∧ Next w r r' ∧ Next w r2 r2' ∧ Chg (S4 b r b2 r2) w w' := by
  have HT := Lib.hid (h.none_ ((Chg.refl (fun _ => False) w).alloc (.cells #[.int .u8 k, .int .i64 n, .string t] 31)))
  have HX : Hid ((w.alloc (.cells #[.int .u8 k, .int .i64 n, .string t] 31)).heap[w.heap.size]? = some (.cells #[.int .u8 k, .int .i64 n, .string t] 31 (0, 0))) := Lib.hid (blkAlloc w _)
  have NB : Hid (¬ (w.heap.size = b ∨ r = some w.heap.size)) := Lib.hid (fun e => e.elim (fun e => by have := h.l.lt; omega) (fun e => by have := h.l.rlt e; omega))
  have HL := Lib.hid hl
  have HL2 := Lib.hid hl2
  have HN := Lib.hid hn
  clear h hl hl2 hn
  go_enter Try.func12, Try.ntmps12
  go_wp2_with (first
    | (go_at_call 56; refine (wTwo_calls _ b r s n (by exact HT.out.l) (by have := HL.out; omega)).mono ?_; rintro e w1 ⟨rfl, r', h1, n1, g1⟩; have HT1 := Lib.hid (HT.out.stepL h1 n1 g1); have c1 := blkCell (g1.obj HX.out NB.out) 1; have N1 := Lib.hid n1; have G1 := Lib.hid g1; clear h1 n1 g1)
    | (go_at_call 59; refine (rwNumber_calls _ b2 r2 s2 n 2 (by exact HT1.out.x) (by omega) HN.out (by have := HL2.out; omega)).mono ?_; rintro e w2 ⟨rfl, r2', h2, n2, g2⟩; have HT2 := Lib.hid (HT1.out.stepR h2 n2 g2); have N2 := Lib.hid n2; have G2 := Lib.hid g2; clear h2 n2 g2))
  go_end0
  have hs : w.heap.size ≤ (w.alloc (.cells #[.int .u8 k, .int .i64 n, .string t] 31)).heap.size := by simp
  exact ⟨rfl, r', r2', HT2.out, Next.trans (w := w) (.inl rfl) N1.out hs, Next.trans (w := w) (.inl rfl) N2.out (Nat.le_trans hs G1.out.size), ((Chg.refl (S4 b r b2 r2) w).alloc _).trans (S4.two G1.out G2.out) (fun k hk => .inl hk)⟩

set_option maxRecDepth 100000 in
theorem layn1 (w : World) (b2 : Nat) (r2 : Option Nat) (s2 : WS) (k n : Int) (t : ByteArray) (hk : k % 6 = 1) (hk0 : 0 ≤ k ∧ k ≤ 255) (hn : n ≤ 9223372036854775807) (h : WrAt w 28 b2 r2 s2.1 s2.2) (hl2 : s2.1.length + t.size + 8 ≤ 140737488355328) :
    Calls Try.prog 12 #[.pointer none, .pointer (some ⟨b2, 0, none⟩), .agg #[.int .u8 k, .int .i64 n, .string t]] w fun e w' => e = .returned (.tuple #[]) ∧ ∃ r2', WrAt w' 28 b2 r2' (numW s2 n 2).1 (numW s2 n 2).2 ∧ Next w r2 r2' ∧ Chg (fun k => k = b2 ∨ r2 = some k) w w' := by
  have HT := Lib.hid (h.chg ((Chg.refl (fun _ => False) w).alloc (.cells #[.int .u8 k, .int .i64 n, .string t] 31)) id (fun _ _ => id))
  have HL2 := Lib.hid hl2
  have HN := Lib.hid hn
  clear h hl2 hn
  go_enter Try.func12, Try.ntmps12
  go_wp2_with (first
    | (go_at_call 56; refine (wTwo_nil _ _).mono ?_; rintro e w1 ⟨rfl, rfl⟩)
    | (go_at_call 59; refine (rwNumber_calls _ b2 r2 s2 n 2 (by exact HT.out) (by omega) HN.out (by have := HL2.out; omega)).mono ?_; rintro e w2 ⟨rfl, r2', h2, n2, g2⟩; have HT2 := Lib.hid h2; have N2 := Lib.hid n2; have G2 := Lib.hid g2; clear h2 n2 g2))
  go_end0
  have hs : w.heap.size ≤ (w.alloc (.cells #[.int .u8 k, .int .i64 n, .string t] 31)).heap.size := by simp
  exact ⟨rfl, r2', HT2.out, Next.trans (w := w) (.inl rfl) N2.out hs, ((Chg.refl (fun k => k = b2 ∨ r2 = some k) w).alloc _).trans G2.out (fun k hk => .inl hk)⟩

set_option maxRecDepth 100000 in
theorem lay2 (w : World) (b b2 : Nat) (r r2 : Option Nat) (s s2 : WS) (k n : Int) (t : ByteArray) (hk : k % 6 = 2) (hk0 : 0 ≤ k ∧ k ≤ 255) (hn : n ≤ 9223372036854775807) (h : Two w b r s b2 r2 s2) (hl : s.1.length + t.size + 8 ≤ 140737488355328) (hl2 : s2.1.length + t.size + 8 ≤ 140737488355328) :
    Calls Try.prog 12 #[.pointer (some ⟨b, 0, none⟩), .pointer (some ⟨b2, 0, none⟩), .agg #[.int .u8 k, .int .i64 n, .string t]] w fun e w' => e = .returned (.tuple #[]) ∧ ∃ r' r2', Two w' b r' (numW s n 4) b2 r2' (numW s2 n 4) ∧ Next w r r' ∧ Next w r2 r2' ∧ Chg (S4 b r b2 r2) w w' := by
  have HT := Lib.hid (h.none_ ((Chg.refl (fun _ => False) w).alloc (.cells #[.int .u8 k, .int .i64 n, .string t] 31)))
  have HX : Hid ((w.alloc (.cells #[.int .u8 k, .int .i64 n, .string t] 31)).heap[w.heap.size]? = some (.cells #[.int .u8 k, .int .i64 n, .string t] 31 (0, 0))) := Lib.hid (blkAlloc w _)
  have NB : Hid (¬ (w.heap.size = b ∨ r = some w.heap.size)) := Lib.hid (fun e => e.elim (fun e => by have := h.l.lt; omega) (fun e => by have := h.l.rlt e; omega))
  have HL := Lib.hid hl
  have HL2 := Lib.hid hl2
  have HN := Lib.hid hn
  clear h hl hl2 hn
  go_enter Try.func12, Try.ntmps12
  go_wp2_with (first
    | (go_at_call 60; refine (wFour_calls _ b r s n (by exact HT.out.l) (by have := HL.out; omega)).mono ?_; rintro e w1 ⟨rfl, r', h1, n1, g1⟩; have HT1 := Lib.hid (HT.out.stepL h1 n1 g1); have c1 := blkCell (g1.obj HX.out NB.out) 1; have N1 := Lib.hid n1; have G1 := Lib.hid g1; clear h1 n1 g1)
    | (go_at_call 59; refine (rwNumber_calls _ b2 r2 s2 n 4 (by exact HT1.out.x) (by omega) HN.out (by have := HL2.out; omega)).mono ?_; rintro e w2 ⟨rfl, r2', h2, n2, g2⟩; have HT2 := Lib.hid (HT1.out.stepR h2 n2 g2); have N2 := Lib.hid n2; have G2 := Lib.hid g2; clear h2 n2 g2))
  go_end0
  have hs : w.heap.size ≤ (w.alloc (.cells #[.int .u8 k, .int .i64 n, .string t] 31)).heap.size := by simp
  exact ⟨rfl, r', r2', HT2.out, Next.trans (w := w) (.inl rfl) N1.out hs, Next.trans (w := w) (.inl rfl) N2.out (Nat.le_trans hs G1.out.size), ((Chg.refl (S4 b r b2 r2) w).alloc _).trans (S4.two G1.out G2.out) (fun k hk => .inl hk)⟩

set_option maxRecDepth 100000 in
theorem layn2 (w : World) (b2 : Nat) (r2 : Option Nat) (s2 : WS) (k n : Int) (t : ByteArray) (hk : k % 6 = 2) (hk0 : 0 ≤ k ∧ k ≤ 255) (hn : n ≤ 9223372036854775807) (h : WrAt w 28 b2 r2 s2.1 s2.2) (hl2 : s2.1.length + t.size + 8 ≤ 140737488355328) :
    Calls Try.prog 12 #[.pointer none, .pointer (some ⟨b2, 0, none⟩), .agg #[.int .u8 k, .int .i64 n, .string t]] w fun e w' => e = .returned (.tuple #[]) ∧ ∃ r2', WrAt w' 28 b2 r2' (numW s2 n 4).1 (numW s2 n 4).2 ∧ Next w r2 r2' ∧ Chg (fun k => k = b2 ∨ r2 = some k) w w' := by
  have HT := Lib.hid (h.chg ((Chg.refl (fun _ => False) w).alloc (.cells #[.int .u8 k, .int .i64 n, .string t] 31)) id (fun _ _ => id))
  have HL2 := Lib.hid hl2
  have HN := Lib.hid hn
  clear h hl2 hn
  go_enter Try.func12, Try.ntmps12
  go_wp2_with (first
    | (go_at_call 60; refine (wFour_nil _ _).mono ?_; rintro e w1 ⟨rfl, rfl⟩)
    | (go_at_call 59; refine (rwNumber_calls _ b2 r2 s2 n 4 (by exact HT.out) (by omega) HN.out (by have := HL2.out; omega)).mono ?_; rintro e w2 ⟨rfl, r2', h2, n2, g2⟩; have HT2 := Lib.hid h2; have N2 := Lib.hid n2; have G2 := Lib.hid g2; clear h2 n2 g2))
  go_end0
  have hs : w.heap.size ≤ (w.alloc (.cells #[.int .u8 k, .int .i64 n, .string t] 31)).heap.size := by simp
  exact ⟨rfl, r2', HT2.out, Next.trans (w := w) (.inl rfl) N2.out hs, ((Chg.refl (fun k => k = b2 ∨ r2 = some k) w).alloc _).trans G2.out (fun k hk => .inl hk)⟩

set_option maxRecDepth 100000 in
theorem lay3 (w : World) (b b2 : Nat) (r r2 : Option Nat) (s s2 : WS) (k n : Int) (t : ByteArray) (hk : k % 6 = 3) (hk0 : 0 ≤ k ∧ k ≤ 255) (hn : n ≤ 9223372036854775807) (h : Two w b r s b2 r2 s2) (hl : s.1.length + t.size + 8 ≤ 140737488355328) (hl2 : s2.1.length + t.size + 8 ≤ 140737488355328) :
    Calls Try.prog 12 #[.pointer (some ⟨b, 0, none⟩), .pointer (some ⟨b2, 0, none⟩), .agg #[.int .u8 k, .int .i64 n, .string t]] w fun e w' => e = .returned (.tuple #[]) ∧ ∃ r' r2', Two w' b r' (numW s n 8) b2 r2' (numW s2 n 8) ∧ Next w r r' ∧ Next w r2 r2' ∧ Chg (S4 b r b2 r2) w w' := by
  have HT := Lib.hid (h.none_ ((Chg.refl (fun _ => False) w).alloc (.cells #[.int .u8 k, .int .i64 n, .string t] 31)))
  have HX : Hid ((w.alloc (.cells #[.int .u8 k, .int .i64 n, .string t] 31)).heap[w.heap.size]? = some (.cells #[.int .u8 k, .int .i64 n, .string t] 31 (0, 0))) := Lib.hid (blkAlloc w _)
  have NB : Hid (¬ (w.heap.size = b ∨ r = some w.heap.size)) := Lib.hid (fun e => e.elim (fun e => by have := h.l.lt; omega) (fun e => by have := h.l.rlt e; omega))
  have HL := Lib.hid hl
  have HL2 := Lib.hid hl2
  have HN := Lib.hid hn
  clear h hl hl2 hn
  go_enter Try.func12, Try.ntmps12
  go_wp2_with (first
    | (go_at_call 61; refine (wEight_calls _ b r s n (by exact HT.out.l) (by have := HL.out; omega)).mono ?_; rintro e w1 ⟨rfl, r', h1, n1, g1⟩; have HT1 := Lib.hid (HT.out.stepL h1 n1 g1); have c1 := blkCell (g1.obj HX.out NB.out) 1; have N1 := Lib.hid n1; have G1 := Lib.hid g1; clear h1 n1 g1)
    | (go_at_call 59; refine (rwNumber_calls _ b2 r2 s2 n 8 (by exact HT1.out.x) (by omega) HN.out (by have := HL2.out; omega)).mono ?_; rintro e w2 ⟨rfl, r2', h2, n2, g2⟩; have HT2 := Lib.hid (HT1.out.stepR h2 n2 g2); have N2 := Lib.hid n2; have G2 := Lib.hid g2; clear h2 n2 g2))
  go_end0
  have hs : w.heap.size ≤ (w.alloc (.cells #[.int .u8 k, .int .i64 n, .string t] 31)).heap.size := by simp
  exact ⟨rfl, r', r2', HT2.out, Next.trans (w := w) (.inl rfl) N1.out hs, Next.trans (w := w) (.inl rfl) N2.out (Nat.le_trans hs G1.out.size), ((Chg.refl (S4 b r b2 r2) w).alloc _).trans (S4.two G1.out G2.out) (fun k hk => .inl hk)⟩

set_option maxRecDepth 100000 in
theorem layn3 (w : World) (b2 : Nat) (r2 : Option Nat) (s2 : WS) (k n : Int) (t : ByteArray) (hk : k % 6 = 3) (hk0 : 0 ≤ k ∧ k ≤ 255) (hn : n ≤ 9223372036854775807) (h : WrAt w 28 b2 r2 s2.1 s2.2) (hl2 : s2.1.length + t.size + 8 ≤ 140737488355328) :
    Calls Try.prog 12 #[.pointer none, .pointer (some ⟨b2, 0, none⟩), .agg #[.int .u8 k, .int .i64 n, .string t]] w fun e w' => e = .returned (.tuple #[]) ∧ ∃ r2', WrAt w' 28 b2 r2' (numW s2 n 8).1 (numW s2 n 8).2 ∧ Next w r2 r2' ∧ Chg (fun k => k = b2 ∨ r2 = some k) w w' := by
  have HT := Lib.hid (h.chg ((Chg.refl (fun _ => False) w).alloc (.cells #[.int .u8 k, .int .i64 n, .string t] 31)) id (fun _ _ => id))
  have HL2 := Lib.hid hl2
  have HN := Lib.hid hn
  clear h hl2 hn
  go_enter Try.func12, Try.ntmps12
  go_wp2_with (first
    | (go_at_call 61; refine (wEight_nil _ _).mono ?_; rintro e w1 ⟨rfl, rfl⟩)
    | (go_at_call 59; refine (rwNumber_calls _ b2 r2 s2 n 8 (by exact HT.out) (by omega) HN.out (by have := HL2.out; omega)).mono ?_; rintro e w2 ⟨rfl, r2', h2, n2, g2⟩; have HT2 := Lib.hid h2; have N2 := Lib.hid n2; have G2 := Lib.hid g2; clear h2 n2 g2))
  go_end0
  have hs : w.heap.size ≤ (w.alloc (.cells #[.int .u8 k, .int .i64 n, .string t] 31)).heap.size := by simp
  exact ⟨rfl, r2', HT2.out, Next.trans (w := w) (.inl rfl) N2.out hs, ((Chg.refl (fun k => k = b2 ∨ r2 = some k) w).alloc _).trans G2.out (fun k hk => .inl hk)⟩

set_option maxRecDepth 100000 in
theorem lay4 (w : World) (b b2 : Nat) (r r2 : Option Nat) (s s2 : WS) (k n : Int) (t : ByteArray) (hk : k % 6 = 4) (hk0 : 0 ≤ k ∧ k ≤ 255) (hn : n ≤ 9223372036854775807) (h : Two w b r s b2 r2 s2) (hl : s.1.length + t.size + 8 ≤ 140737488355328) (hl2 : s2.1.length + t.size + 8 ≤ 140737488355328) :
    Calls Try.prog 12 #[.pointer (some ⟨b, 0, none⟩), .pointer (some ⟨b2, 0, none⟩), .agg #[.int .u8 k, .int .i64 n, .string t]] w fun e w' => e = .returned (.tuple #[]) ∧ ∃ r' r2', Two w' b r' (wtextW s t) b2 r2' (rtextW s2 t) ∧ Next w r r' ∧ Next w r2 r2' ∧ Chg (S4 b r b2 r2) w w' := by
  have HT := Lib.hid (h.none_ ((Chg.refl (fun _ => False) w).alloc (.cells #[.int .u8 k, .int .i64 n, .string t] 31)))
  have HX : Hid ((w.alloc (.cells #[.int .u8 k, .int .i64 n, .string t] 31)).heap[w.heap.size]? = some (.cells #[.int .u8 k, .int .i64 n, .string t] 31 (0, 0))) := Lib.hid (blkAlloc w _)
  have NB : Hid (¬ (w.heap.size = b ∨ r = some w.heap.size)) := Lib.hid (fun e => e.elim (fun e => by have := h.l.lt; omega) (fun e => by have := h.l.rlt e; omega))
  have HL := Lib.hid hl
  have HL2 := Lib.hid hl2
  have HN := Lib.hid hn
  clear h hl hl2 hn
  go_enter Try.func12, Try.ntmps12
  go_wp2_with (first
    | (go_at_call 57; refine (wText_calls _ b r s t (by exact HT.out.l) (by have := HL.out; omega)).mono ?_; rintro e w1 ⟨rfl, r', h1, n1, g1⟩; have HT1 := Lib.hid (HT.out.stepL h1 n1 g1); have c1 := blkCell (g1.obj HX.out NB.out) 2; have N1 := Lib.hid n1; have G1 := Lib.hid g1; clear h1 n1 g1)
    | (go_at_call 62; refine (rwText_calls _ b2 r2 s2 t (by exact HT1.out.x) (by have := HL2.out; omega)).mono ?_; rintro e w2 ⟨rfl, r2', h2, n2, g2⟩; have HT2 := Lib.hid (HT1.out.stepR h2 n2 g2); have N2 := Lib.hid n2; have G2 := Lib.hid g2; clear h2 n2 g2))
  go_end0
  have hs : w.heap.size ≤ (w.alloc (.cells #[.int .u8 k, .int .i64 n, .string t] 31)).heap.size := by simp
  exact ⟨rfl, r', r2', HT2.out, Next.trans (w := w) (.inl rfl) N1.out hs, Next.trans (w := w) (.inl rfl) N2.out (Nat.le_trans hs G1.out.size), ((Chg.refl (S4 b r b2 r2) w).alloc _).trans (S4.two G1.out G2.out) (fun k hk => .inl hk)⟩

set_option maxRecDepth 100000 in
theorem layn4 (w : World) (b2 : Nat) (r2 : Option Nat) (s2 : WS) (k n : Int) (t : ByteArray) (hk : k % 6 = 4) (hk0 : 0 ≤ k ∧ k ≤ 255) (hn : n ≤ 9223372036854775807) (h : WrAt w 28 b2 r2 s2.1 s2.2) (hl2 : s2.1.length + t.size + 8 ≤ 140737488355328) :
    Calls Try.prog 12 #[.pointer none, .pointer (some ⟨b2, 0, none⟩), .agg #[.int .u8 k, .int .i64 n, .string t]] w fun e w' => e = .returned (.tuple #[]) ∧ ∃ r2', WrAt w' 28 b2 r2' (rtextW s2 t).1 (rtextW s2 t).2 ∧ Next w r2 r2' ∧ Chg (fun k => k = b2 ∨ r2 = some k) w w' := by
  have HT := Lib.hid (h.chg ((Chg.refl (fun _ => False) w).alloc (.cells #[.int .u8 k, .int .i64 n, .string t] 31)) id (fun _ _ => id))
  have HL2 := Lib.hid hl2
  have HN := Lib.hid hn
  clear h hl2 hn
  go_enter Try.func12, Try.ntmps12
  go_wp2_with (first
    | (go_at_call 57; refine (wText_nil _ _).mono ?_; rintro e w1 ⟨rfl, rfl⟩)
    | (go_at_call 62; refine (rwText_calls _ b2 r2 s2 t (by exact HT.out) (by have := HL2.out; omega)).mono ?_; rintro e w2 ⟨rfl, r2', h2, n2, g2⟩; have HT2 := Lib.hid h2; have N2 := Lib.hid n2; have G2 := Lib.hid g2; clear h2 n2 g2))
  go_end0
  have hs : w.heap.size ≤ (w.alloc (.cells #[.int .u8 k, .int .i64 n, .string t] 31)).heap.size := by simp
  exact ⟨rfl, r2', HT2.out, Next.trans (w := w) (.inl rfl) N2.out hs, ((Chg.refl (fun k => k = b2 ∨ r2 = some k) w).alloc _).trans G2.out (fun k hk => .inl hk)⟩

set_option maxRecDepth 100000 in
theorem lay5 (w : World) (b b2 : Nat) (r r2 : Option Nat) (s s2 : WS) (k n : Int) (t : ByteArray) (hk : k % 6 = 5) (hk0 : 0 ≤ k ∧ k ≤ 255) (hn : n ≤ 9223372036854775807) (h : Two w b r s b2 r2 s2) (hl : s.1.length + t.size + 8 ≤ 140737488355328) (hl2 : s2.1.length + t.size + 8 ≤ 140737488355328) :
    Calls Try.prog 12 #[.pointer (some ⟨b, 0, none⟩), .pointer (some ⟨b2, 0, none⟩), .agg #[.int .u8 k, .int .i64 n, .string t]] w fun e w' => e = .returned (.tuple #[]) ∧ ∃ r' r2', Two w' b r' (whashW s t) b2 r2' (rhashW s2 t) ∧ Next w r r' ∧ Next w r2 r2' ∧ Chg (S4 b r b2 r2) w w' := by
  have HT := Lib.hid (h.none_ ((Chg.refl (fun _ => False) w).alloc (.cells #[.int .u8 k, .int .i64 n, .string t] 31)))
  have HX : Hid ((w.alloc (.cells #[.int .u8 k, .int .i64 n, .string t] 31)).heap[w.heap.size]? = some (.cells #[.int .u8 k, .int .i64 n, .string t] 31 (0, 0))) := Lib.hid (blkAlloc w _)
  have NB : Hid (¬ (w.heap.size = b ∨ r = some w.heap.size)) := Lib.hid (fun e => e.elim (fun e => by have := h.l.lt; omega) (fun e => by have := h.l.rlt e; omega))
  have HL := Lib.hid hl
  have HL2 := Lib.hid hl2
  have HN := Lib.hid hn
  clear h hl hl2 hn
  go_enter Try.func12, Try.ntmps12
  go_wp2_with (first
    | (go_at_call 63; refine (wHash_calls _ b r s t (by exact HT.out.l) (by have := HL.out; omega)).mono ?_; rintro e w1 ⟨rfl, r', h1, n1, g1⟩; have HT1 := Lib.hid (HT.out.stepL h1 n1 g1); have c1 := blkCell (g1.obj HX.out NB.out) 2; have N1 := Lib.hid n1; have G1 := Lib.hid g1; clear h1 n1 g1)
    | (go_at_call 64; refine (rwHash_calls _ b2 r2 s2 t (by exact HT1.out.x) (by have := HL2.out; omega)).mono ?_; rintro e w2 ⟨rfl, r2', h2, n2, g2⟩; have HT2 := Lib.hid (HT1.out.stepR h2 n2 g2); have N2 := Lib.hid n2; have G2 := Lib.hid g2; clear h2 n2 g2))
  go_end0
  have hs : w.heap.size ≤ (w.alloc (.cells #[.int .u8 k, .int .i64 n, .string t] 31)).heap.size := by simp
  exact ⟨rfl, r', r2', HT2.out, Next.trans (w := w) (.inl rfl) N1.out hs, Next.trans (w := w) (.inl rfl) N2.out (Nat.le_trans hs G1.out.size), ((Chg.refl (S4 b r b2 r2) w).alloc _).trans (S4.two G1.out G2.out) (fun k hk => .inl hk)⟩

set_option maxRecDepth 100000 in
theorem layn5 (w : World) (b2 : Nat) (r2 : Option Nat) (s2 : WS) (k n : Int) (t : ByteArray) (hk : k % 6 = 5) (hk0 : 0 ≤ k ∧ k ≤ 255) (hn : n ≤ 9223372036854775807) (h : WrAt w 28 b2 r2 s2.1 s2.2) (hl2 : s2.1.length + t.size + 8 ≤ 140737488355328) :
    Calls Try.prog 12 #[.pointer none, .pointer (some ⟨b2, 0, none⟩), .agg #[.int .u8 k, .int .i64 n, .string t]] w fun e w' => e = .returned (.tuple #[]) ∧ ∃ r2', WrAt w' 28 b2 r2' (rhashW s2 t).1 (rhashW s2 t).2 ∧ Next w r2 r2' ∧ Chg (fun k => k = b2 ∨ r2 = some k) w w' := by
  have HT := Lib.hid (h.chg ((Chg.refl (fun _ => False) w).alloc (.cells #[.int .u8 k, .int .i64 n, .string t] 31)) id (fun _ _ => id))
  have HL2 := Lib.hid hl2
  have HN := Lib.hid hn
  clear h hl2 hn
  go_enter Try.func12, Try.ntmps12
  go_wp2_with (first
    | (go_at_call 63; refine (wHash_nil _ _).mono ?_; rintro e w1 ⟨rfl, rfl⟩)
    | (go_at_call 64; refine (rwHash_calls _ b2 r2 s2 t (by exact HT.out) (by have := HL2.out; omega)).mono ?_; rintro e w2 ⟨rfl, r2', h2, n2, g2⟩; have HT2 := Lib.hid h2; have N2 := Lib.hid n2; have G2 := Lib.hid g2; clear h2 n2 g2))
  go_end0
  have hs : w.heap.size ≤ (w.alloc (.cells #[.int .u8 k, .int .i64 n, .string t] 31)).heap.size := by simp
  exact ⟨rfl, r2', HT2.out, Next.trans (w := w) (.inl rfl) N2.out hs, ((Chg.refl (fun k => k = b2 ∨ r2 = some k) w).alloc _).trans G2.out (fun k hk => .inl hk)⟩

theorem six {k : Int} (h : 0 ≤ k) : k % 6 = 0 ∨ k % 6 = 1 ∨ k % 6 = 2 ∨ k % 6 = 3 ∨ k % 6 = 4 ∨ k % 6 = 5 := by omega
theorem lay_calls (w : World) (b b2 : Nat) (r r2 : Option Nat) (s s2 : WS) (k n : Int) (t : ByteArray) (hk0 : 0 ≤ k ∧ k ≤ 255) (hn : n ≤ 9223372036854775807) (h : Two w b r s b2 r2 s2) (hl : s.1.length + t.size + 8 ≤ 140737488355328) (hl2 : s2.1.length + t.size + 8 ≤ 140737488355328) :
    Calls Try.prog 12 #[.pointer (some ⟨b, 0, none⟩), .pointer (some ⟨b2, 0, none⟩), .agg #[.int .u8 k, .int .i64 n, .string t]] w fun e w' => e = .returned (.tuple #[]) ∧ ∃ r' r2', Two w' b r' (layW s k n t) b2 r2' (rlayW s2 k n t) ∧ Next w r r' ∧ Next w r2 r2' ∧ Chg (S4 b r b2 r2) w w' := by
  rcases six hk0.1 with hk | hk | hk | hk | hk | hk
  · simp only [layW, rlayW, hk, Int.reduceEq, if_true, if_false]
    exact lay0 w b b2 r r2 s s2 k n t hk hk0 hn h hl hl2
  · simp only [layW, rlayW, hk, Int.reduceEq, if_true, if_false]
    exact lay1 w b b2 r r2 s s2 k n t hk hk0 hn h hl hl2
  · simp only [layW, rlayW, hk, Int.reduceEq, if_true, if_false]
    exact lay2 w b b2 r r2 s s2 k n t hk hk0 hn h hl hl2
  · simp only [layW, rlayW, hk, Int.reduceEq, if_true, if_false]
    exact lay3 w b b2 r r2 s s2 k n t hk hk0 hn h hl hl2
  · simp only [layW, rlayW, hk, Int.reduceEq, if_true, if_false]
    exact lay4 w b b2 r r2 s s2 k n t hk hk0 hn h hl hl2
  · simp only [layW, rlayW, hk, Int.reduceEq, if_true, if_false]
    exact lay5 w b b2 r r2 s s2 k n t hk hk0 hn h hl hl2
theorem layn_calls (w : World) (b2 : Nat) (r2 : Option Nat) (s2 : WS) (k n : Int) (t : ByteArray) (hk0 : 0 ≤ k ∧ k ≤ 255) (hn : n ≤ 9223372036854775807) (h : WrAt w 28 b2 r2 s2.1 s2.2) (hl2 : s2.1.length + t.size + 8 ≤ 140737488355328) :
    Calls Try.prog 12 #[.pointer none, .pointer (some ⟨b2, 0, none⟩), .agg #[.int .u8 k, .int .i64 n, .string t]] w fun e w' => e = .returned (.tuple #[]) ∧ ∃ r2', WrAt w' 28 b2 r2' (rlayW s2 k n t).1 (rlayW s2 k n t).2 ∧ Next w r2 r2' ∧ Chg (fun k => k = b2 ∨ r2 = some k) w w' := by
  rcases six hk0.1 with hk | hk | hk | hk | hk | hk
  · simp only [rlayW, hk, Int.reduceEq, if_true, if_false]
    exact layn0 w b2 r2 s2 k n t hk hk0 hn h hl2
  · simp only [rlayW, hk, Int.reduceEq, if_true, if_false]
    exact layn1 w b2 r2 s2 k n t hk hk0 hn h hl2
  · simp only [rlayW, hk, Int.reduceEq, if_true, if_false]
    exact layn2 w b2 r2 s2 k n t hk hk0 hn h hl2
  · simp only [rlayW, hk, Int.reduceEq, if_true, if_false]
    exact layn3 w b2 r2 s2 k n t hk hk0 hn h hl2
  · simp only [rlayW, hk, Int.reduceEq, if_true, if_false]
    exact layn4 w b2 r2 s2 k n t hk hk0 hn h hl2
  · simp only [rlayW, hk, Int.reduceEq, if_true, if_false]
    exact layn5 w b2 r2 s2 k n t hk hk0 hn h hl2
end Go.Proofs.Ytjlkflbkejpcaaa
/- The writer of package pack: what each method does to its object. -/
import Derived.Test.YtnhdlclicjmmnaaGreatRow
import Derived.Test.YtnhdlclicjmmnaaGreatShT
import Derived.Test.YtnhdlclicjmmnaaGreatProg
import Derived.Deep.RegionLaw
import Derived.IntWalk
import Derived.Outline
namespace Go.Proofs.YtnhdlclicjmmnaaGreat
open Go.RowKit

/-- The object at block b is a writer (of the type T) with the bytes bs; sp: is it spoilt; r: the row's block. -/
def WrAt (w : World) (T b : Nat) (r : Option Nat) (bs : List UInt8) (sp : Bool) : Prop :=
  ∃ A m c, w.heap[b]? = some (.cells #[.slice A m c, .bool sp] T (0, 0)) ∧ Row w 5 (.slice A m c) r bs
theorem WrAt.chg {w w1 : World} {T b : Nat} {r : Option Nat} {bs : List UInt8} {sp : Bool} {S : Nat → Prop} (h : WrAt w T b r bs sp) (hc : Chg S w w1) (hb : ¬ S b) (hr : ∀ k, r = some k → ¬ S k) : WrAt w1 T b r bs sp := by
  obtain ⟨A, m, c, h1, h2⟩ := h
  exact ⟨A, m, c, hc.obj h1 hb, h2.chg hc hr⟩
theorem WrAt.lt {w : World} {T b : Nat} {r : Option Nat} {bs : List UInt8} {sp : Bool} (h : WrAt w T b r bs sp) : b < w.heap.size := by
  obtain ⟨A, m, c, h1, _⟩ := h
  exact blkLt h1
theorem WrAt.rlt {w : World} {T b : Nat} {r : Option Nat} {bs : List UInt8} {sp : Bool} (h : WrAt w T b r bs sp) {k : Nat} (hk : r = some k) : k < w.heap.size := by
  obtain ⟨A, m, c, _, h2⟩ := h
  exact (h2.lt hk).1
theorem WrAt.rne {w : World} {T b : Nat} {r : Option Nat} {bs : List UInt8} {sp : Bool} (h : WrAt w T b r bs sp) (_hT : T ≠ 5) {T' g : Nat} {cs : Array Value} (hg : w.heap[g]? = some (.cells cs T' (0, 0))) (hT' : T' ≠ 5) : r ≠ some g := by
  obtain ⟨A, m, c, _, h2⟩ := h
  exact h2.ne hg hT'
theorem WrAt.spoil {w : World} {T b : Nat} {r : Option Nat} {bs : List UInt8} {sp : Bool} (h : WrAt w T b r bs sp) (hT : T ≠ 5) (sp' : Bool) : WrAt (w.setCell ⟨b, 1, none⟩ (.bool sp')) T b r bs sp' := by
  obtain ⟨A, m, c, h1, h2⟩ := h
  exact ⟨A, m, c, by simpa using blkSet h1 1 (.bool sp'), h2.set (h2.ne h1 hT) _⟩


/-- Can't it be laid? -/
def badNum (x n : Int) : Prop := x < 0 ∨ (n < 8 ∧ x / 2 ^ (8 * n).toNat ≠ 0)

theorem WrAt.drew {w : World} {T b : Nat} {r : Option Nat} {bs : List UInt8} {sp : Bool} (h : WrAt w T b r bs sp) : WrAt w.drew T b r bs sp := h
theorem Chg.of_grown {S : Nat → Prop} {w w1 : World} {row : Option Nat} (hg : w.grownBy w1 row) (hr : ∀ k, row = some k → S k ∨ w.heap.size ≤ k) : Chg S w w1 := (Chg.refl S w).grown hg hr
theorem u8_range (x : Int) : 0 ≤ IntKind.u8.wrap x ∧ IntKind.u8.wrap x < 256 := by
  simp only [IntKind.wrap, IntKind.bits, IntKind.signed]
  simp
  omega
theorem u8_wrap (x : Int) : IntKind.u8.wrap x = x % 256 := by
  simp only [IntKind.wrap, IntKind.bits, IntKind.signed]
  simp
/-- Behind an append and the store of its slice into the writer. -/
theorem WrAt.laid {w w1 : World} {T b : Nat} {v v1 : Value} {sp : Bool} {r r2 : Option Nat} {bs : List UInt8} (hv : w.heap[b]? = some (.cells #[v, .bool sp] T (0, 0))) (hT : T ≠ 5) (hr : r ≠ some b)
    (hrow : Row w1 5 v1 r2 bs) (hc : Chg (fun k => r = some k) w w1) :
    WrAt (w1.setCell ⟨b, 0, none⟩ v1) T b r2 bs sp ∧ Chg (fun k => k = b ∨ r = some k) w (w1.setCell ⟨b, 0, none⟩ v1) := by
  have h1 := hc.obj hv hr
  obtain ⟨A, m, c, rfl⟩ := hrow.slice
  exact ⟨⟨A, m, c, by simpa using blkSet h1 0 (.slice A m c), hrow.set (hrow.ne h1 hT) _⟩, (hc.mono fun k hk => .inl (.inr hk)).setCell (.inl (.inl rfl)) _⟩
theorem Chg.boxed {w w1 : World} {o : Obj} {r : Option Nat} (hg : (w.drew.alloc o).grownBy w1 r) : Chg (fun k => r = some k) w w1 := ((Chg.refl (fun k => r = some k) w).drew.alloc o).grown hg (fun _ hk => .inl hk)
theorem Chg.bare {w w1 : World} {r : Option Nat} (hg : w.grownBy w1 r) : Chg (fun k => r = some k) w w1 := (Chg.refl (fun k => r = some k) w).grown hg (fun _ hk => .inl hk)
/-- Two steps of one writer. -/
theorem Chg.two {w w1 w2 : World} {b : Nat} {r r1 : Option Nat} (h : Chg (fun k => k = b ∨ r = some k) w w1) (hn : Next w r r1) (h2 : Chg (fun k => k = b ∨ r1 = some k) w1 w2) : Chg (fun k => k = b ∨ r = some k) w w2 :=
  h.trans h2 fun k hk => hk.elim (fun e => .inl (.inl e)) (fun e => (hn.mem e).imp (fun e => .inr e) id)
theorem numStep {x : Int} {j : Nat} {cur rest : List UInt8} (h : cur ++ numBytes x (j + 1) = rest) : (cur ++ [UInt8.ofNat (IntKind.u8.wrap (x / 2 ^ (8 * j))).toNat]) ++ numBytes x j = rest := by
  rw [u8_wrap, ← h]
  simp [numBytes]
namespace Keep
variable {w w1 : World} {b T : Nat} {v : Value} {sp : Bool} {r : Option Nat} {o : Obj}
theorem obj (h : w.heap[b]? = some (.cells #[v, .bool sp] T (0, 0))) (hr : r ≠ some b) (hg : (w.drew.alloc o).grownBy w1 r) : w1.heap[b]? = some (.cells #[v, .bool sp] T (0, 0)) := by
  have hlt : b < w.heap.size := blkLt h
  have h1 : (w.drew.alloc o).heap[b]? = some (.cells #[v, .bool sp] T (0, 0)) := (Below.heap_alloc w.drew o b hlt).trans h
  exact (hg.block b (blkLt h1) (fun e => hr e.symm)).trans h1
theorem c0 (h : w.heap[b]? = some (.cells #[v, .bool sp] T (0, 0))) (hr : r ≠ some b) (hg : (w.drew.alloc o).grownBy w1 r) : w1.cell? ⟨b, 0, none⟩ = some v := blkCell (obj h hr hg) 0
theorem f0 (h : w.heap[b]? = some (.cells #[v, .bool sp] T (0, 0))) (hr : r ≠ some b) (hg : (w.drew.alloc o).grownBy w1 r) : w1.frozen? ⟨b, 0, none⟩ = false := blkFree (obj h hr hg) 0
end Keep
theorem sn {j : Nat} : ((j + 1 : Nat) : Int) - 1 = j := by omega

set_option maxRecDepth 100000 in
theorem wnumber_ok (w : World) (b : Nat) (r : Option Nat) (bs : List UInt8) (sp : Bool) (x : Int) (n : Nat) (h : WrAt w 63 b r bs sp) (hx : 0 ≤ x) (hn : n ≤ 8) (hfit : n < 8 → x / 2 ^ (8 * n) = 0) (hl : bs.length + 8 ≤ 140737488355328) :
    Calls Tryz.prog 52 #[.pointer (some ⟨b, 0, none⟩), .int .i64 x, .int .i64 n] w fun e w' => e = .returned (.tuple #[]) ∧ ∃ r', WrAt w' 63 b r' (bs ++ numBytes x n) sp ∧ Next w r r' ∧ Chg (fun k => k = b ∨ r = some k) w w' := by
  have hx0 : ¬ x < 0 := by omega
  have H := Lib.hid h
  clear h
  by_cases h8 : (n : Int) < 8
  · have hz : (x / 2 ^ (8 * n) != 0) = false := by rw [hfit (by omega)]; rfl
    have h16 := hz
    clear hfit

    go_wp2
    go_loopw [2] (fun v wr => ∃ (k : Nat) (r1 : Option Nat) (cur : List UInt8), k ≤ n ∧ v = .int .i64 ((k : Int) - 1) ∧ HD (WrAt wr 63 b r1 cur sp) ∧ HD (cur ++ numBytes x k = bs ++ numBytes x n) ∧ HD (Next w r r1) ∧ HD (Chg (fun k => k = b ∨ r = some k) w wr)) (fun v _ => (intOf v + 1).toNat)
    case atStart => exact ⟨n, r, bs, Nat.le_refl _, rfl, ⟨H.out⟩, ⟨rfl⟩, ⟨.inl rfl⟩, ⟨Chg.refl _ _⟩⟩
    case round =>
      obtain ⟨k, r1, cur, hk, rfl, ⟨HW⟩, ⟨HC⟩, ⟨HN⟩, ⟨HG⟩⟩ := hrel
      have HC := Lib.hid HC
      cases k with
      | zero =>
        rw [show ((0 : Nat) : Int) - 1 = -1 from rfl]
        go_wp2
        go_end0
        have hcur : cur = bs ++ numBytes x n := by have := HC.out; simpa [numBytes] using this
        exact ⟨rfl, r1, by rw [← hcur]; exact HW, HN, HG⟩
      | succ j =>
        rw [sn]
        have HL : cur.length + 1 ≤ 140737488355328 := by
          have := congrArg List.length HC.out
          simp only [List.length_append, numBytes_len] at this
          omega
        obtain ⟨A, m, c, hv1, hv2⟩ := HW
        have c0 : wr.cell? ⟨b, 0, none⟩ = some (.slice A m c) := blkCell hv1 0
        have f0 : wr.frozen? ⟨b, 0, none⟩ = false := blkFree hv1 0
        have hlt : b < wr.heap.size := blkLt hv1
        have hrb : r1 ≠ some b := hv2.ne hv1 (by decide)
        have HV := Lib.hid hv1
        have HR := Lib.hid hv2
        have HB := Lib.hid hrb
        clear hv1 hv2 hrb
        go_wp2
        have e1 : IntKind.i64.wrap (8 * (j : Int)) = 8 * (j : Int) := IntWalk.i64_in _ (by omega)
        have e2 : (0 : Int) ≤ 8 * (j : Int) := by omega
        have e3 : (8 * (j : Int)).toNat = 8 * j := by omega
        go_region_law (refine step_append_byte wr.drew rfl (.tmp 34) (.tmp 40) 22 5 rfl Tryz.underlying22 info_u8 (.slice A m c) r1 cur (IntKind.u8.wrap (x / 2 ^ (8 * j))) (by simp [Act.eval, Act.put]) (by simp [Act.eval, Act.put]) HR.out (u8_range _) HL ?_; intro A1 m1 c1 w1 r2 hrow hnext hgrow; have HROW := Lib.hid hrow; have HNEXT := Lib.hid hnext; have HGROW := Lib.hid hgrow; clear hrow hnext hgrow; have d1 := Keep.c0 HV.out HB.out HGROW.out; have d2 := Keep.f0 HV.out HB.out HGROW.out)
        all_goals
          go_wp2
          have hb2 := WrAt.laid HV.out (by decide) HB.out HROW.out (Chg.boxed HGROW.out)
          exact ⟨⟨j, r2, _, by omega, rfl, ⟨hb2.1⟩, ⟨numStep HC.out⟩, ⟨HN.trans HNEXT.out HG.size⟩, ⟨Chg.two HG HN hb2.2⟩⟩, by simp [intOf]⟩
  · have h8' : ¬ (n : Int) < 8 := h8
    clear hfit

    go_wp2
    go_loopw [2] (fun v wr => ∃ (k : Nat) (r1 : Option Nat) (cur : List UInt8), k ≤ n ∧ v = .int .i64 ((k : Int) - 1) ∧ HD (WrAt wr 63 b r1 cur sp) ∧ HD (cur ++ numBytes x k = bs ++ numBytes x n) ∧ HD (Next w r r1) ∧ HD (Chg (fun k => k = b ∨ r = some k) w wr)) (fun v _ => (intOf v + 1).toNat)
    case atStart => exact ⟨n, r, bs, Nat.le_refl _, rfl, ⟨H.out⟩, ⟨rfl⟩, ⟨.inl rfl⟩, ⟨Chg.refl _ _⟩⟩
    case round =>
      obtain ⟨k, r1, cur, hk, rfl, ⟨HW⟩, ⟨HC⟩, ⟨HN⟩, ⟨HG⟩⟩ := hrel
      have HC := Lib.hid HC
      cases k with
      | zero =>
        rw [show ((0 : Nat) : Int) - 1 = -1 from rfl]
        go_wp2
        go_end0
        have hcur : cur = bs ++ numBytes x n := by have := HC.out; simpa [numBytes] using this
        exact ⟨rfl, r1, by rw [← hcur]; exact HW, HN, HG⟩
      | succ j =>
        rw [sn]
        have HL : cur.length + 1 ≤ 140737488355328 := by
          have := congrArg List.length HC.out
          simp only [List.length_append, numBytes_len] at this
          omega
        obtain ⟨A, m, c, hv1, hv2⟩ := HW
        have c0 : wr.cell? ⟨b, 0, none⟩ = some (.slice A m c) := blkCell hv1 0
        have f0 : wr.frozen? ⟨b, 0, none⟩ = false := blkFree hv1 0
        have hlt : b < wr.heap.size := blkLt hv1
        have hrb : r1 ≠ some b := hv2.ne hv1 (by decide)
        have HV := Lib.hid hv1
        have HR := Lib.hid hv2
        have HB := Lib.hid hrb
        clear hv1 hv2 hrb
        go_wp2
        have e1 : IntKind.i64.wrap (8 * (j : Int)) = 8 * (j : Int) := IntWalk.i64_in _ (by omega)
        have e2 : (0 : Int) ≤ 8 * (j : Int) := by omega
        have e3 : (8 * (j : Int)).toNat = 8 * j := by omega
        go_region_law (refine step_append_byte wr.drew rfl (.tmp 34) (.tmp 40) 22 5 rfl Tryz.underlying22 info_u8 (.slice A m c) r1 cur (IntKind.u8.wrap (x / 2 ^ (8 * j))) (by simp [Act.eval, Act.put]) (by simp [Act.eval, Act.put]) HR.out (u8_range _) HL ?_; intro A1 m1 c1 w1 r2 hrow hnext hgrow; have HROW := Lib.hid hrow; have HNEXT := Lib.hid hnext; have HGROW := Lib.hid hgrow; clear hrow hnext hgrow; have d1 := Keep.c0 HV.out HB.out HGROW.out; have d2 := Keep.f0 HV.out HB.out HGROW.out)
        all_goals
          go_wp2
          have hb2 := WrAt.laid HV.out (by decide) HB.out HROW.out (Chg.boxed HGROW.out)
          exact ⟨⟨j, r2, _, by omega, rfl, ⟨hb2.1⟩, ⟨numStep HC.out⟩, ⟨HN.trans HNEXT.out HG.size⟩, ⟨Chg.two HG HN hb2.2⟩⟩, by simp [intOf]⟩

set_option maxRecDepth 100000 in
theorem wnumber_bad (w : World) (b : Nat) (r : Option Nat) (bs : List UInt8) (sp : Bool) (x : Int) (n : Nat) (h : WrAt w 63 b r bs sp) (hbad : x < 0 ∨ (n < 8 ∧ x / 2 ^ (8 * n) ≠ 0)) (hn : n ≤ 8) :
    Calls Tryz.prog 52 #[.pointer (some ⟨b, 0, none⟩), .int .i64 x, .int .i64 n] w fun e w' => e = .returned (.tuple #[]) ∧ WrAt w' 63 b r bs true ∧ Chg (fun k => k = b) w w' := by
  obtain ⟨A, m, c, hv1, hv2⟩ := h
  have c1 : w.cell? ⟨b, 1, none⟩ = some (.bool sp) := blkCell hv1 1
  have f1 : w.frozen? ⟨b, 1, none⟩ = false := blkFree hv1 1
  have H : Hid (WrAt w 63 b r bs sp) := Lib.hid ⟨A, m, c, hv1, hv2⟩
  clear hv1 hv2
  by_cases hx : x < 0
  · clear hbad
    go_enter Tryz.func52, Tryz.ntmps52
    go_wp2
    refine bodyPost_ret (results_none rfl _ _ _) rfl ?_
    exact ⟨rfl, H.out.spoil (by decide) true, (Chg.refl (fun k => k = b) w).setCell (.inl rfl) _⟩
  · obtain ⟨h8, hz⟩ := hbad.resolve_left hx
    have h8' : (n : Int) < 8 := by omega
    have hz' : (x / 2 ^ (8 * n) != 0) = true := by simpa using hz
    clear hbad hz h8
    go_enter Tryz.func52, Tryz.ntmps52
    go_wp2
    refine bodyPost_ret (results_none rfl _ _ _) rfl ?_
    exact ⟨rfl, H.out.spoil (by decide) true, (Chg.refl (fun k => k = b) w).setCell (.inl rfl) _⟩

/-- Does it fit into n bytes? -/
def fits (x : Int) (n : Nat) : Prop := 0 ≤ x ∧ (n < 8 → x / 2 ^ (8 * n) = 0)
instance (x : Int) (n : Nat) : Decidable (fits x n) := by unfold fits; infer_instance
/-- A writer's state: the bytes, and whether it is spoilt. -/
abbrev WS := List UInt8 × Bool
def numW (s : WS) (x : Int) (n : Nat) : WS := if fits x n then (s.1 ++ numBytes x n, s.2) else (s.1, true)
theorem wnumber_calls (w : World) (b : Nat) (r : Option Nat) (s : WS) (x : Int) (n : Nat) (h : WrAt w 63 b r s.1 s.2) (hn : n ≤ 8) (hl : s.1.length + 8 ≤ 140737488355328) :
    Calls Tryz.prog 52 #[.pointer (some ⟨b, 0, none⟩), .int .i64 x, .int .i64 n] w fun e w' => e = .returned (.tuple #[]) ∧ ∃ r', WrAt w' 63 b r' (numW s x n).1 (numW s x n).2 ∧ Next w r r' ∧ Chg (fun k => k = b ∨ r = some k) w w' := by
  by_cases hf : fits x n
  · rw [numW, if_pos hf]
    exact wnumber_ok w b r s.1 s.2 x n h hf.1 hn hf.2 hl
  · rw [numW, if_neg hf]
    refine (wnumber_bad w b r s.1 s.2 x n h ?_ hn).mono ?_
    · rcases Int.lt_or_le x 0 with h0 | h0
      · exact .inl h0
      · refine .inr ?_
        rcases Nat.lt_or_ge n 8 with h8 | h8
        · exact ⟨h8, fun hz => hf ⟨h0, fun _ => hz⟩⟩
        · exact absurd ⟨h0, fun h => absurd h (by omega)⟩ hf
    · rintro e w' ⟨rfl, h1, h2⟩
      exact ⟨rfl, r, h1, .inl rfl, h2.mono fun k hk => .inl (.inl hk)⟩
theorem wnumber_nil (w : World) (x n : Int) : Calls Tryz.prog 52 #[.pointer none, .int .i64 x, .int .i64 n] w fun e w' => e = .returned (.tuple #[]) ∧ w = w' := by
  go_enter Tryz.func52, Tryz.ntmps52
  go_wp2
  refine bodyPost_ret (results_none rfl _ _ _) rfl ?_
  exact ⟨rfl, rfl⟩

theorem wByte_calls (w : World) (b : Nat) (r : Option Nat) (s : WS) (x : Int) (h : WrAt w 63 b r s.1 s.2) (hl : s.1.length + 8 ≤ 140737488355328) :
    Calls Tryz.prog 28 #[.pointer (some ⟨b, 0, none⟩), .int .i64 x] w fun e w' => e = .returned (.tuple #[]) ∧ ∃ r', WrAt w' 63 b r' (numW s x 1).1 (numW s x 1).2 ∧ Next w r r' ∧ Chg (fun k => k = b ∨ r = some k) w w' := by
  have C := Lib.hid (wnumber_calls w b r s x 1 h (by omega) hl)
  clear h
  go_enter Tryz.func28, Tryz.ntmps28
  go_wp2_with (go_at_call 52; refine (C.out).mono ?_; rintro e w1 ⟨rfl, r1, hr, hn, hg⟩)
  go_end0
  exact ⟨rfl, r1, hr, hn, hg⟩
theorem wByte_nil (w : World) (x : Int) : Calls Tryz.prog 28 #[.pointer none, .int .i64 x] w fun e w' => e = .returned (.tuple #[]) ∧ w = w' := by
  go_enter Tryz.func28, Tryz.ntmps28
  go_wp2_with (go_at_call 52; refine (wnumber_nil _ _ _).mono ?_; rintro e w1 ⟨rfl, rfl⟩)
  go_end0
  exact ⟨rfl, rfl⟩

theorem wTwo_calls (w : World) (b : Nat) (r : Option Nat) (s : WS) (x : Int) (h : WrAt w 63 b r s.1 s.2) (hl : s.1.length + 8 ≤ 140737488355328) :
    Calls Tryz.prog 31 #[.pointer (some ⟨b, 0, none⟩), .int .i64 x] w fun e w' => e = .returned (.tuple #[]) ∧ ∃ r', WrAt w' 63 b r' (numW s x 2).1 (numW s x 2).2 ∧ Next w r r' ∧ Chg (fun k => k = b ∨ r = some k) w w' := by
  have C := Lib.hid (wnumber_calls w b r s x 2 h (by omega) hl)
  clear h
  go_enter Tryz.func31, Tryz.ntmps31
  go_wp2_with (go_at_call 52; refine (C.out).mono ?_; rintro e w1 ⟨rfl, r1, hr, hn, hg⟩)
  go_end0
  exact ⟨rfl, r1, hr, hn, hg⟩
theorem wTwo_nil (w : World) (x : Int) : Calls Tryz.prog 31 #[.pointer none, .int .i64 x] w fun e w' => e = .returned (.tuple #[]) ∧ w = w' := by
  go_enter Tryz.func31, Tryz.ntmps31
  go_wp2_with (go_at_call 52; refine (wnumber_nil _ _ _).mono ?_; rintro e w1 ⟨rfl, rfl⟩)
  go_end0
  exact ⟨rfl, rfl⟩

theorem wFour_calls (w : World) (b : Nat) (r : Option Nat) (s : WS) (x : Int) (h : WrAt w 63 b r s.1 s.2) (hl : s.1.length + 8 ≤ 140737488355328) :
    Calls Tryz.prog 25 #[.pointer (some ⟨b, 0, none⟩), .int .i64 x] w fun e w' => e = .returned (.tuple #[]) ∧ ∃ r', WrAt w' 63 b r' (numW s x 4).1 (numW s x 4).2 ∧ Next w r r' ∧ Chg (fun k => k = b ∨ r = some k) w w' := by
  have C := Lib.hid (wnumber_calls w b r s x 4 h (by omega) hl)
  clear h
  go_enter Tryz.func25, Tryz.ntmps25
  go_wp2_with (go_at_call 52; refine (C.out).mono ?_; rintro e w1 ⟨rfl, r1, hr, hn, hg⟩)
  go_end0
  exact ⟨rfl, r1, hr, hn, hg⟩
theorem wFour_nil (w : World) (x : Int) : Calls Tryz.prog 25 #[.pointer none, .int .i64 x] w fun e w' => e = .returned (.tuple #[]) ∧ w = w' := by
  go_enter Tryz.func25, Tryz.ntmps25
  go_wp2_with (go_at_call 52; refine (wnumber_nil _ _ _).mono ?_; rintro e w1 ⟨rfl, rfl⟩)
  go_end0
  exact ⟨rfl, rfl⟩

theorem wEight_calls (w : World) (b : Nat) (r : Option Nat) (s : WS) (x : Int) (h : WrAt w 63 b r s.1 s.2) (hl : s.1.length + 8 ≤ 140737488355328) :
    Calls Tryz.prog 98 #[.pointer (some ⟨b, 0, none⟩), .int .i64 x] w fun e w' => e = .returned (.tuple #[]) ∧ ∃ r', WrAt w' 63 b r' (numW s x 8).1 (numW s x 8).2 ∧ Next w r r' ∧ Chg (fun k => k = b ∨ r = some k) w w' := by
  have C := Lib.hid (wnumber_calls w b r s x 8 h (by omega) hl)
  clear h
  go_enter Tryz.func98, Tryz.ntmps98
  go_wp2_with (go_at_call 52; refine (C.out).mono ?_; rintro e w1 ⟨rfl, r1, hr, hn, hg⟩)
  go_end0
  exact ⟨rfl, r1, hr, hn, hg⟩
theorem wEight_nil (w : World) (x : Int) : Calls Tryz.prog 98 #[.pointer none, .int .i64 x] w fun e w' => e = .returned (.tuple #[]) ∧ w = w' := by
  go_enter Tryz.func98, Tryz.ntmps98
  go_wp2_with (go_at_call 52; refine (wnumber_nil _ _ _).mono ?_; rintro e w1 ⟨rfl, rfl⟩)
  go_end0
  exact ⟨rfl, rfl⟩

def wtextW (s : WS) (t : ByteArray) : WS := ((numW s t.size 2).1 ++ t.data.toList, (numW s t.size 2).2)
theorem numW_len (s : WS) (x : Int) (n : Nat) : (numW s x n).1.length ≤ s.1.length + n := by
  unfold numW
  split
  · simp [numBytes_len]
  · simp
theorem wText_calls (w : World) (b : Nat) (r : Option Nat) (s : WS) (t : ByteArray) (h : WrAt w 63 b r s.1 s.2) (hl : s.1.length + t.size + 8 ≤ 140737488355328) :
    Calls Tryz.prog 29 #[.pointer (some ⟨b, 0, none⟩), .string t] w fun e w' => e = .returned (.tuple #[]) ∧ ∃ r', WrAt w' 63 b r' (wtextW s t).1 (wtextW s t).2 ∧ Next w r r' ∧ Chg (fun k => k = b ∨ r = some k) w w' := by
  have C := Lib.hid (wnumber_calls w b r s t.size 2 h (by omega) (by omega))
  have HL : (numW s t.size 2).1.length + t.size ≤ 140737488355328 := by have := numW_len s t.size 2; omega
  unfold wtextW
  obtain ⟨y, hy⟩ : ∃ y, numW s t.size 2 = y := ⟨_, rfl⟩
  rw [hy] at C HL ⊢
  clear h hy
  go_enter Tryz.func29, Tryz.ntmps29
  go_wp2_with (first | (go_at_call 52; refine (C.out).mono ?_; rintro e w1 ⟨rfl, r1, ⟨A, m, c, hv1, hv2⟩, hn, hg⟩; have HV := Lib.hid hv1; have HR := Lib.hid hv2; have c0 : w1.cell? ⟨b, 0, none⟩ = some (.slice A m c) := blkCell hv1 0; have HB : Hid (r1 ≠ some b) := Lib.hid (hv2.ne hv1 (by decide)); clear hv1 hv2) | (at_builtin; refine wpList_append_str w1 rfl (.tmp 14) (.tmp 15) 22 9 5 rfl Tryz.underlying22 Tryz.underlying9 info_u8 (.slice A m c) r1 y.1 t rfl rfl HR.out HL ?_; intro A1 m1 c1 w2 r2 hrow hnext hgrow; have HROW := Lib.hid hrow; have HNEXT := Lib.hid hnext; have HGROW := Lib.hid hgrow; clear hrow hnext hgrow; have d1 : w2.cell? ⟨b, 0, none⟩ = some (.slice A m c) := blkCell ((Chg.bare HGROW.out).obj HV.out HB.out) 0; have d2 : w2.frozen? ⟨b, 0, none⟩ = false := blkFree ((Chg.bare HGROW.out).obj HV.out HB.out) 0))
  go_end0
  have hb2 := WrAt.laid HV.out (by decide) HB.out HROW.out (Chg.bare HGROW.out)
  exact ⟨rfl, r2, hb2.1, hn.trans HNEXT.out hg.size, Chg.two hg hn hb2.2⟩
theorem wText_nil (w : World) (t : ByteArray) : Calls Tryz.prog 29 #[.pointer none, .string t] w fun e w' => e = .returned (.tuple #[]) ∧ w = w' := by
  go_enter Tryz.func29, Tryz.ntmps29
  go_wp2
  refine bodyPost_ret (results_none rfl _ _ _) rfl ?_
  exact ⟨rfl, rfl⟩

def whashW (s : WS) (t : ByteArray) : WS := (s.1 ++ t.data.toList, s.2 || decide (t.size ≠ 32))
theorem wHash_calls (w : World) (b : Nat) (r : Option Nat) (s : WS) (t : ByteArray) (h : WrAt w 63 b r s.1 s.2) (hl : s.1.length + t.size ≤ 140737488355328) :
    Calls Tryz.prog 26 #[.pointer (some ⟨b, 0, none⟩), .string t] w fun e w' => e = .returned (.tuple #[]) ∧ ∃ r', WrAt w' 63 b r' (whashW s t).1 (whashW s t).2 ∧ Next w r r' ∧ Chg (fun k => k = b ∨ r = some k) w w' := by
  obtain ⟨bs, sp⟩ := s
  obtain ⟨A, m, c, hv1, hv2⟩ := h
  have c1 : w.cell? ⟨b, 1, none⟩ = some (.bool sp) := blkCell hv1 1
  have f1 : w.frozen? ⟨b, 1, none⟩ = false := blkFree hv1 1
  have c0 : w.cell? ⟨b, 0, none⟩ = some (.slice A m c) := blkCell hv1 0
  have e1 : (whashW (bs, sp) t) = (bs ++ t.data.toList, sp || decide (t.size ≠ 32)) := rfl
  obtain ⟨sp', hsp⟩ : ∃ sp' : Bool, (sp || decide (t.size ≠ 32)) = sp' := ⟨_, rfl⟩
  rw [e1, hsp]
  clear e1
  have HS : WrAt (w.setCell ⟨b, 1, none⟩ (.bool sp')) 63 b r bs sp' := WrAt.spoil ⟨A, m, c, hv1, hv2⟩ (by decide) sp'
  have HV : Hid ((w.setCell ⟨b, 1, none⟩ (.bool sp')).heap[b]? = some (.cells #[.slice A m c, .bool sp'] 63 (0, 0))) := Lib.hid (by simpa using blkSet hv1 1 (.bool sp'))
  have HB : Hid (r ≠ some b) := Lib.hid (hv2.ne hv1 (by decide))
  have HR : Hid (Row (w.setCell ⟨b, 1, none⟩ (.bool sp')) 5 (.slice A m c) r bs) := Lib.hid (hv2.set HB.out _)
  have HL := Lib.hid hl
  clear hv1 hv2 HS hl
  cases sp with
  | true =>
    obtain rfl : sp' = true := by simpa using hsp.symm
    clear hsp
    go_enter Tryz.func26, Tryz.ntmps26
    go_wp2_with (at_builtin; refine wpList_append_str (w.setCell ⟨b, 1, none⟩ (.bool true)) rfl (.tmp 22) (.tmp 23) 22 9 5 rfl Tryz.underlying22 Tryz.underlying9 info_u8 (.slice A m c) r bs t rfl rfl HR.out HL.out ?_; intro A1 m1 c1 w2 r2 hrow hnext hgrow; have HROW := Lib.hid hrow; have HNEXT := Lib.hid hnext; have HGROW := Lib.hid hgrow; clear hrow hnext hgrow; have d1 : w2.cell? ⟨b, 0, none⟩ = some (.slice A m c) := blkCell ((Chg.bare HGROW.out).obj HV.out HB.out) 0; have d2 : w2.frozen? ⟨b, 0, none⟩ = false := blkFree ((Chg.bare HGROW.out).obj HV.out HB.out) 0)
    go_end0
    have hb2 := WrAt.laid HV.out (by decide) HB.out HROW.out (Chg.bare HGROW.out)
    exact ⟨rfl, r2, hb2.1, Next.trans (w := w) (.inl rfl) HNEXT.out (by simp [World.setCell]), Chg.two ((Chg.refl (fun k => k = b ∨ r = some k) w).setCell (.inl (.inl rfl)) _) (.inl rfl) hb2.2⟩
  | false =>
    by_cases h32 : (t.size : Int) = 32
    · have hb : ((t.size : Int) != 32) = false := by simpa using h32
      obtain rfl : sp' = false := by rw [← hsp]; simp; omega
      clear hsp h32
      go_enter Tryz.func26, Tryz.ntmps26
      go_wp2_with (at_builtin; refine wpList_append_str (w.setCell ⟨b, 1, none⟩ (.bool false)) rfl (.tmp 22) (.tmp 23) 22 9 5 rfl Tryz.underlying22 Tryz.underlying9 info_u8 (.slice A m c) r bs t rfl rfl HR.out HL.out ?_; intro A1 m1 c1 w2 r2 hrow hnext hgrow; have HROW := Lib.hid hrow; have HNEXT := Lib.hid hnext; have HGROW := Lib.hid hgrow; clear hrow hnext hgrow; have d1 : w2.cell? ⟨b, 0, none⟩ = some (.slice A m c) := blkCell ((Chg.bare HGROW.out).obj HV.out HB.out) 0; have d2 : w2.frozen? ⟨b, 0, none⟩ = false := blkFree ((Chg.bare HGROW.out).obj HV.out HB.out) 0)
      go_end0
      have hb2 := WrAt.laid HV.out (by decide) HB.out HROW.out (Chg.bare HGROW.out)
      exact ⟨rfl, r2, hb2.1, Next.trans (w := w) (.inl rfl) HNEXT.out (by simp [World.setCell]), Chg.two ((Chg.refl (fun k => k = b ∨ r = some k) w).setCell (.inl (.inl rfl)) _) (.inl rfl) hb2.2⟩
    · have hb : ((t.size : Int) != 32) = true := by simpa using h32
      obtain rfl : sp' = true := by rw [← hsp]; simp; omega
      clear hsp h32
      go_enter Tryz.func26, Tryz.ntmps26
      go_wp2_with (at_builtin; refine wpList_append_str (w.setCell ⟨b, 1, none⟩ (.bool true)) rfl (.tmp 22) (.tmp 23) 22 9 5 rfl Tryz.underlying22 Tryz.underlying9 info_u8 (.slice A m c) r bs t rfl rfl HR.out HL.out ?_; intro A1 m1 c1 w2 r2 hrow hnext hgrow; have HROW := Lib.hid hrow; have HNEXT := Lib.hid hnext; have HGROW := Lib.hid hgrow; clear hrow hnext hgrow; have d1 : w2.cell? ⟨b, 0, none⟩ = some (.slice A m c) := blkCell ((Chg.bare HGROW.out).obj HV.out HB.out) 0; have d2 : w2.frozen? ⟨b, 0, none⟩ = false := blkFree ((Chg.bare HGROW.out).obj HV.out HB.out) 0)
      go_end0
      have hb2 := WrAt.laid HV.out (by decide) HB.out HROW.out (Chg.bare HGROW.out)
      exact ⟨rfl, r2, hb2.1, Next.trans (w := w) (.inl rfl) HNEXT.out (by simp [World.setCell]), Chg.two ((Chg.refl (fun k => k = b ∨ r = some k) w).setCell (.inl (.inl rfl)) _) (.inl rfl) hb2.2⟩
theorem wHash_nil (w : World) (t : ByteArray) : Calls Tryz.prog 26 #[.pointer none, .string t] w fun e w' => e = .returned (.tuple #[]) ∧ w = w' := by
  go_enter Tryz.func26, Tryz.ntmps26
  go_wp2
  refine bodyPost_ret (results_none rfl _ _ _) rfl ?_
  exact ⟨rfl, rfl⟩

theorem wBytes_bad (w : World) (b : Nat) (r : Option Nat) (bs : List UInt8) (h : WrAt w 63 b r bs true) :
    Calls Tryz.prog 32 #[.pointer (some ⟨b, 0, none⟩)] w fun e w' => e = .returned (.tuple #[.string ⟨#[]⟩, .int .i64 1]) ∧ w = w' := by
  obtain ⟨A, m, c, hv1, hv2⟩ := h
  have c1 : w.cell? ⟨b, 1, none⟩ = some (.bool true) := blkCell hv1 1
  clear hv1 hv2
  go_enter Tryz.func32, Tryz.ntmps32
  go_wp2
  go_ret2
  exact ⟨rfl, rfl⟩
theorem wBytes_ok (w : World) (b : Nat) (r : Option Nat) (bs : List UInt8) (h : WrAt w 63 b r bs false) :
    Calls Tryz.prog 32 #[.pointer (some ⟨b, 0, none⟩)] w fun e w' => e = .returned (.tuple #[.string (strOf bs), .int .i64 0]) ∧ w = w' := by
  obtain ⟨A, m, c, hv1, hv2⟩ := h
  have c1 : w.cell? ⟨b, 1, none⟩ = some (.bool false) := blkCell hv1 1
  have c0 : w.cell? ⟨b, 0, none⟩ = some (.slice A m c) := blkCell hv1 0
  have kc := run_string_row (P := Tryz.prog) (dst := 9) Tryz.underlying22 Tryz.underlying5 Tryz.underlying9 hv2
  clear hv1 hv2
  go_enter Tryz.func32, Tryz.ntmps32
  go_wp2
  go_ret2
  exact ⟨rfl, rfl⟩
theorem wBytes_nil (w : World) : Calls Tryz.prog 32 #[.pointer none] w fun e w' => e = .returned (.tuple #[.string ⟨#[]⟩, .int .i64 1]) ∧ w = w' := by
  go_enter Tryz.func32, Tryz.ntmps32
  go_wp2
  go_ret2
  exact ⟨rfl, rfl⟩

end Go.Proofs.YtnhdlclicjmmnaaGreat
/- The reference's writer: what each method does to its object. -/
import Derived.Test.YtjlkflbkejpcaaaRn
import Derived.Deep.RegionWith
namespace Go.Proofs.Ytjlkflbkejpcaaa
open Go.RowKit

theorem pow_cases (x : Int) (n : Nat) (hn : n < 8) : wrap64 (2 ^ (8 * n)) = 2 ^ (8 * n) ∧ (0 ≤ x → (x / 2 ^ (8 * n) = 0 ↔ x < 2 ^ (8 * n))) := by
  have h : n = 0 ∨ n = 1 ∨ n = 2 ∨ n = 3 ∨ n = 4 ∨ n = 5 ∨ n = 6 ∨ n = 7 := by omega
  rcases h with rfl | rfl | rfl | rfl | rfl | rfl | rfl | rfl
  all_goals
    refine ⟨by decide +kernel, fun hx => ?_⟩
    simp only [Nat.mul_zero, Nat.mul_one, Nat.reduceMul, Int.reducePow, Int.pow_zero]
    omega
theorem bad_iff {x : Int} {n : Nat} (hx : 0 ≤ x) (hbad : ¬ fits x n) : n < 8 ∧ wrap64 (2 ^ (8 * n)) ≤ x := by
  rcases Nat.lt_or_ge n 8 with h8 | h8
  · obtain ⟨h1, h2⟩ := pow_cases x n h8
    refine ⟨h8, ?_⟩
    rw [h1]
    rcases Int.lt_or_le x (2 ^ (8 * n)) with h | h
    · exact absurd ⟨hx, fun _ => (h2 hx).2 h⟩ hbad
    · exact h
  · exact absurd ⟨hx, fun h => absurd h (by omega)⟩ hbad
theorem ok_iff {x : Int} {n : Nat} (hf : fits x n) (hn : n < 8) : x < wrap64 (2 ^ (8 * n)) := by
  obtain ⟨h1, h2⟩ := pow_cases x n hn
  rw [h1]
  exact (h2 hf.1).1 (hf.2 hn)
theorem numBytes_str (x : Int) (n : Nat) : (strOf (numBytes x n)).data.toList = numBytes x n := rfl

set_option maxRecDepth 100000 in
theorem rwNumber_bad (w : World) (b : Nat) (r : Option Nat) (bs : List UInt8) (sp : Bool) (x : Int) (n : Nat) (h : WrAt w 28 b r bs sp) (hbad : ¬ fits x n) (hn : n ≤ 8) :
    Calls Try.prog 59 #[.pointer (some ⟨b, 0, none⟩), .int .i64 x, .int .i64 n] w fun e w' => e = .returned (.tuple #[]) ∧ WrAt w' 28 b r bs true ∧ Chg (fun k => k = b) w w' := by
  obtain ⟨A, m, c, hv1, hv2⟩ := h
  have c1 : w.cell? ⟨b, 1, none⟩ = some (.bool sp) := blkCell hv1 1
  have f1 : w.frozen? ⟨b, 1, none⟩ = false := blkFree hv1 1
  have H : Hid (WrAt w 28 b r bs sp) := Lib.hid ⟨A, m, c, hv1, hv2⟩
  clear hv1 hv2
  by_cases hx : x < 0
  · clear hbad
    go_enter Try.func59, Try.ntmps59
    go_wp2
    refine bodyPost_ret (results_none rfl _ _ _) rfl ?_
    exact ⟨rfl, H.out.spoil (by decide) true, (Chg.refl (fun k => k = b) w).setCell (.inl rfl) _⟩
  · obtain ⟨h8, hle⟩ := bad_iff (Int.not_lt.1 hx) hbad
    have h8' : (n : Int) < 8 := by omega
    clear h8 hbad
    go_enter Try.func59, Try.ntmps59
    go_wp2
    refine bodyPost_ret (results_none rfl _ _ _) rfl ?_
    exact ⟨rfl, H.out.spoil (by decide) true, (Chg.refl (fun k => k = b) w).setCell (.inl rfl) _⟩

set_option maxRecDepth 100000 in
theorem rwNumber_ok (w : World) (b : Nat) (r : Option Nat) (bs : List UInt8) (sp : Bool) (x : Int) (n : Nat) (h : WrAt w 28 b r bs sp) (hf : fits x n) (hn : n ≤ 8) (hx : x ≤ 9223372036854775807) (hl : bs.length + 8 ≤ 140737488355328) :
    Calls Try.prog 59 #[.pointer (some ⟨b, 0, none⟩), .int .i64 x, .int .i64 n] w fun e w' => e = .returned (.tuple #[]) ∧ ∃ r', WrAt w' 28 b r' (bs ++ numBytes x n) sp ∧ Next w r r' ∧ Chg (fun k => k = b ∨ r = some k) w w' := by
  obtain ⟨A, m, c, hv1, hv2⟩ := h
  have c0 : w.cell? ⟨b, 0, none⟩ = some (.slice A m c) := blkCell hv1 0
  have hlt : b < w.heap.size := blkLt hv1
  have HV := Lib.hid hv1
  have HR := Lib.hid hv2
  have HB : Hid (r ≠ some b) := Lib.hid (hv2.ne hv1 (by decide))
  have HL : Hid (bs.length + (strOf (numBytes x n)).size ≤ 140737488355328) := Lib.hid (by rw [strOf_size, numBytes_len]; omega)
  have HX := Lib.hid hf.1
  have HN := Lib.hid hn
  have hx0 : ¬ x < 0 := by have := hf.1; omega
  have hxu : IntKind.u64.wrap x = x := by have := hf.1; rw [IntKind.wrap_u64]; omega
  clear hv1 hv2 hl
  by_cases h8 : (n : Int) < 8
  · have hlt8 := ok_iff hf (by omega)
    clear hf
    go_enter Try.func59, Try.ntmps59
    go_wp2
    go_region_law (first
      | (refine step_append_str w1 rfl (.tmp 26) (.tmp 30) 24 9 5 rfl Try.underlying24 Try.underlying9 info_u8 (.slice A m c) r bs (strOf (numBytes x n)) (by simp [Act.eval, Act.put]) (by simp [Act.eval, Act.put]) HR1.out HL.out ?_; intro A1 m1 c1 w2 r2 hrow hnext hgrow; have HROW := Lib.hid hrow; have HNEXT := Lib.hid hnext; have HGROW := Lib.hid hgrow; clear hrow hnext hgrow; have d1 : w2.cell? ⟨b, 0, none⟩ = some (.slice A m c) := blkCell ((Chg.bare HGROW.out).obj HV1.out HB.out) 0; have d2 : w2.frozen? ⟨b, 0, none⟩ = false := blkFree ((Chg.bare HGROW.out).obj HV1.out HB.out) 0)
      | (go_simp; go_at_call 74; refine (Num01_calls _ x n HX.out HN.out).mono ?_; rintro e w1 ⟨rfl, hg⟩; have hg : Chg (fun _ => False) w w1 := ⟨hg.os, hg.tape, hg.output, hg.size, hg.block⟩; have HV1 := Lib.hid (hg.obj HV.out id); have HR1 := Lib.hid (HR.out.chg hg (fun _ _ => id)); have G1 := Lib.hid hg; have d0 : w1.cell? ⟨b, 0, none⟩ = some (.slice A m c) := blkCell HV1.out 0; clear hg))
    all_goals
      go_wp2
      go_end0
      have hb2 := WrAt.laid HV1.out (by decide) HB.out HROW.out (Chg.bare HGROW.out)
      exact ⟨rfl, r2, hb2.1, (Next.refl w r).trans (Next.trans (w := w) (.inl rfl) HNEXT.out G1.out.size) (Nat.le_refl _), (G1.out.mono (S' := fun k => k = b ∨ r = some k) (fun _ hk => hk.elim)).trans hb2.2 (fun k hk => .inl hk)⟩
  · clear hf
    go_enter Try.func59, Try.ntmps59
    go_wp2
    go_region_law (first
      | (refine step_append_str w1 rfl (.tmp 26) (.tmp 30) 24 9 5 rfl Try.underlying24 Try.underlying9 info_u8 (.slice A m c) r bs (strOf (numBytes x n)) (by simp [Act.eval, Act.put]) (by simp [Act.eval, Act.put]) HR1.out HL.out ?_; intro A1 m1 c1 w2 r2 hrow hnext hgrow; have HROW := Lib.hid hrow; have HNEXT := Lib.hid hnext; have HGROW := Lib.hid hgrow; clear hrow hnext hgrow; have d1 : w2.cell? ⟨b, 0, none⟩ = some (.slice A m c) := blkCell ((Chg.bare HGROW.out).obj HV1.out HB.out) 0; have d2 : w2.frozen? ⟨b, 0, none⟩ = false := blkFree ((Chg.bare HGROW.out).obj HV1.out HB.out) 0)
      | (go_simp; go_at_call 74; refine (Num01_calls _ x n HX.out HN.out).mono ?_; rintro e w1 ⟨rfl, hg⟩; have hg : Chg (fun _ => False) w w1 := ⟨hg.os, hg.tape, hg.output, hg.size, hg.block⟩; have HV1 := Lib.hid (hg.obj HV.out id); have HR1 := Lib.hid (HR.out.chg hg (fun _ _ => id)); have G1 := Lib.hid hg; have d0 : w1.cell? ⟨b, 0, none⟩ = some (.slice A m c) := blkCell HV1.out 0; clear hg))
    all_goals
      go_wp2
      go_end0
      have hb2 := WrAt.laid HV1.out (by decide) HB.out HROW.out (Chg.bare HGROW.out)
      exact ⟨rfl, r2, hb2.1, (Next.refl w r).trans (Next.trans (w := w) (.inl rfl) HNEXT.out G1.out.size) (Nat.le_refl _), (G1.out.mono (S' := fun k => k = b ∨ r = some k) (fun _ hk => hk.elim)).trans hb2.2 (fun k hk => .inl hk)⟩

end Go.Proofs.Ytjlkflbkejpcaaa
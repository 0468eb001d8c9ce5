/- Take, Drop and Twice of both networks. -/
import Derived.Test.YtjlkflbkejpcaaaLook
namespace Go.Proofs.Ytjlkflbkejpcaaa
open Go.RowKit

theorem NetAt.kept {T : TypeId} {w w1 : World} {b : Nat} {r : Option Nat} {l : List Pk} {lost : Int} (h : NetAt T w b r l lost) (hc : Chg (fun _ => False) w w1) : NetAt T w1 b r l lost := h.chg hc id (fun _ _ => id)
theorem Chg.nix {S : Nat → Prop} {w w1 : World} (h : Chg (fun _ => False) w w1) : Chg S w w1 := h.mono fun _ hk => hk.elim
theorem Chg.cellOf {w w1 : World} {g : Nat} (h : Chg (fun k => k = g) w w1) (i : Nat) (u : Value) : Chg (fun k => k = g) w (w1.setCell ⟨g, i, none⟩ u) := h.setCell (.inl rfl) u
theorem Chg.past {w w1 : World} {o : Obj} {S : Nat → Prop} (h : Chg S (w.alloc o) w1) : w.heap.size < w1.heap.size := by
  have h1 := h.size
  simp at h1
  omega
/-- What a walk reads of a block that holds a packet. -/
theorem pkCells {w : World} {g : Nat} {a b c : Value} {T : TypeId} (h : w.heap[g]? = some (.cells #[a, b, c] T (0, 0))) :
    w.cell? ⟨g, 0, none⟩ = some a ∧ w.cell? ⟨g, 1, none⟩ = some b ∧ w.cell? ⟨g, 2, none⟩ = some c ∧ w.frozen? ⟨g, 0, none⟩ = false ∧ w.frozen? ⟨g, 1, none⟩ = false ∧ w.frozen? ⟨g, 2, none⟩ = false :=
  ⟨blkCell h 0, blkCell h 1, blkCell h 2, blkFree h 0, blkFree h 1, blkFree h 2⟩
theorem netCells {w : World} {g : Nat} {a b : Value} {T : TypeId} (h : w.heap[g]? = some (.cells #[a, b] T (0, 0))) :
    w.cell? ⟨g, 0, none⟩ = some a ∧ w.cell? ⟨g, 1, none⟩ = some b ∧ w.frozen? ⟨g, 0, none⟩ = false ∧ w.frozen? ⟨g, 1, none⟩ = false :=
  ⟨blkCell h 0, blkCell h 1, blkFree h 0, blkFree h 1⟩

theorem Take_none (w : World) (b : Nat) (r : Option Nat) (l : List Pk) (lost : Int) (h : NetAt 41 w b r l lost) (i : Int) (hi : i < 0 ∨ (l.length : Int) ≤ i) :
    Calls Try.prog 20 #[.pointer (some ⟨b, 0, none⟩), .int .i64 i] w fun e w' => e = .returned (.tuple #[Pk.none.val, .int .i64 5]) ∧ Chg (fun _ => False) w w' := by
  have H := Lib.hid (h.kept ((Chg.refl _ w).alloc (.cells #[.int .i64 0, .int .i64 0, .string ⟨#[]⟩] 45)))
  clear h
  go_enter Try.func20, Try.ntmps20
  go_wp2_with (go_at_call 44; refine (Look_none _ b r l lost (by exact H.out) i hi).mono ?_; rintro r0 w1 ⟨rfl, hg⟩; simp only [Pk.val, Pk.none]; have HG := Lib.hid hg; have HZ := Lib.hid (hg.obj (blkAlloc w (.cells #[.int .i64 0, .int .i64 0, .string ⟨#[]⟩] 45)) id); have HL := Lib.hid hg.size; obtain ⟨z0, z1, z2, y0, y1, y2⟩ := pkCells HZ.out; have hz : w.heap.size < w1.heap.size := by have := HL.out; simp at this; omega)
  refine bodyPost_ret (v := .tuple #[Pk.none.val, .int .i64 5]) (by simp [results, go_sem, Pk.val, Pk.none, *]) rfl ⟨rfl, ?_⟩
  repeat (first | exact HG.out.kept | refine Chg.alloc ?_ _ | refine Chg.setCell ?_ (.inr (Nat.le_refl _)) _)
theorem rTake_none (w : World) (b : Nat) (r : Option Nat) (l : List Pk) (lost : Int) (h : NetAt 66 w b r l lost) (i : Int) (hi : i < 0 ∨ (l.length : Int) ≤ i) :
    Calls Try.prog 37 #[.pointer (some ⟨b, 0, none⟩), .int .i64 i] w fun e w' => e = .returned (.tuple #[Pk.none.val, .int .i64 5]) ∧ Chg (fun _ => False) w w' := by
  have H := Lib.hid (h.kept ((Chg.refl _ w).alloc (.cells #[.int .i64 0, .int .i64 0, .string ⟨#[]⟩] 45)))
  clear h
  go_enter Try.func37, Try.ntmps37
  go_wp2_with (go_at_call 45; refine (rLook_none _ b r l lost (by exact H.out) i hi).mono ?_; rintro r0 w1 ⟨rfl, hg⟩; simp only [Pk.val, Pk.none]; have HG := Lib.hid hg; have HZ := Lib.hid (hg.obj (blkAlloc w (.cells #[.int .i64 0, .int .i64 0, .string ⟨#[]⟩] 45)) id); have HL := Lib.hid hg.size; obtain ⟨z0, z1, z2, y0, y1, y2⟩ := pkCells HZ.out; have hz : w.heap.size < w1.heap.size := by have := HL.out; simp at this; omega)
  refine bodyPost_ret (v := .tuple #[Pk.none.val, .int .i64 5]) (by simp [results, go_sem, Pk.val, Pk.none, *]) rfl ⟨rfl, ?_⟩
  repeat (first | exact HG.out.kept | refine Chg.alloc ?_ _ | refine Chg.setCell ?_ (.inr (Nat.le_refl _)) _)
theorem Take_ok (w : World) (b : Nat) (r : Option Nat) (l : List Pk) (lost : Int) (h : NetAt 41 w b r l lost) (j : Nat) (p : Pk) (hj : l[j]? = some p) (hl : l.length ≤ 64) :
    Calls Try.prog 20 #[.pointer (some ⟨b, 0, none⟩), .int .i64 j] w fun e w' => e = .returned (.tuple #[p.val, .int .i64 0]) ∧ NetAt 41 w' b r (l.eraseIdx j) lost ∧ Chg (fun k => k = b ∨ r = some k) w w' := by
  have hlt := h.lt
  obtain ⟨g, c, hv1, hr, hjl, hv2, _⟩ := h.packet j p hj
  have hrb := hv2.ne hv1 (by decide)
  have hgl : g < w.heap.size := (hv2.lt hr).1
  have H := Lib.hid h
  have HV := Lib.hid hv1
  have HR := Lib.hid hv2
  have HB := Lib.hid hrb
  have HJ := Lib.hid hj
  have HQ := Lib.hid hr
  have HNZ : Hid (¬ r = some w.heap.size) := Lib.hid (by rw [hr]; intro e; injection e with e; omega)
  clear h hv1 hv2 hrb hj hr
  have hlen : (l.eraseIdx j).length = l.length - 1 := by rw [List.length_eraseIdx, if_pos hjl]
  have e1 : IntKind.i64.wrap ((j : Int) + 1) = (j : Int) + 1 := IntWalk.i64_in _ (by omega)
  go_enter Try.func20, Try.ntmps20
  go_wp2_with (first
    | (go_at_call 44; refine (Look_ok _ b r l lost (by exact H.out.kept ((Chg.refl _ w).alloc (.cells #[.int .i64 0, .int .i64 0, .string ⟨#[]⟩] 45))) j p HJ.out).mono ?_; rintro r0 w1 ⟨rfl, hg⟩; simp only [Pk.val]; have HG := Lib.hid (Chg.kept hg); have HZ := Lib.hid (hg.obj (blkAlloc w (.cells #[.int .i64 0, .int .i64 0, .string ⟨#[]⟩] 45)) id); have HL := hg.past; have HV1 := Lib.hid (HG.out.obj HV.out id); have HR1 := Lib.hid (HR.out.chg HG.out (fun _ _ => id)); clear hg; obtain ⟨z0, z1, z2, y0, y1, y2⟩ := pkCells HZ.out; obtain ⟨c0, c1, f0, f1⟩ := netCells HV1.out; have hb1 : b < w1.heap.size := (by omega); have hbz : ¬ w.heap.size = b := (by omega); have hbz' : ¬ b = w.heap.size := (by omega); have HNP : Hid (¬ r = some w1.heap.size) := Lib.hid (fun e => absurd (HR.out.lt e).1 (by omega)); have hpb : ¬ w1.heap.size = b := (by omega); have hpb' : ¬ b = w1.heap.size := (by omega))
    | (go_at_call 66; refine (Delete_calls _ _ c r l j (by exact HR1.out.alloc (.cells #[.int .i64 p.f, .int .i64 p.t, .string p.b] 45)) hjl).mono ?_; rintro r0 w2 ⟨rfl, hrow, hg⟩; have HROW := Lib.hid hrow; have HG2 := Lib.hid hg; clear hrow; have HVW := Lib.hid (((Chg.refl (fun _ => False) w1).alloc (.cells #[.int .i64 p.f, .int .i64 p.t, .string p.b] 45)).obj HV1.out id); have HV2 := Lib.hid (hg.obj HVW.out HB.out); have HZ2 := Lib.hid (hg.obj (((Chg.refl (fun _ => False) w1).alloc (.cells #[.int .i64 p.f, .int .i64 p.t, .string p.b] 45)).obj HZ.out id) HNZ.out); have HP2 := Lib.hid (hg.obj (blkAlloc w1 (.cells #[.int .i64 p.f, .int .i64 p.t, .string p.b] 45)) HNP.out); have hwp := hg.past; clear hg; clear z0 z1 z2 y0 y1 y2 c0 c1 f0 f1; obtain ⟨z0, z1, z2, y0, y1, y2⟩ := pkCells HZ2.out; obtain ⟨c0, c1, f0, f1⟩ := netCells HV2.out; obtain ⟨p0, p1, p2, q0, q1, q2⟩ := pkCells HP2.out))
  refine bodyPost_ret (v := .tuple #[p.val, .int .i64 0]) (by simp [results, go_sem, Pk.val, Pk.none, *]) rfl ⟨rfl, ?_⟩
  have hb2 := NetAt.laid (by decide) HVW.out HB.out (hlen ▸ HROW.out) HG2.out
  rw [hlen] at hb2
  have hbe : b ≠ w.heap.size := by omega
  refine ⟨NetAt.chg (S := fun k => k = w.heap.size) hb2.1 ?_ hbe (fun k hk e => HNZ.out (hk.trans (congrArg some e))), ?_⟩
  · repeat (first | exact Chg.refl _ _ | refine Chg.cellOf ?_ _ _)
  · repeat (first | exact (HG.out.nix.alloc _).trans hb2.2 (fun _ hk => .inl hk) | refine Chg.setCell ?_ (.inr (Nat.le_refl _)) _)
/-- What a slice of a row shows. -/
theorem SRow.news {α : Type} {E : TypeId} {sz : Nat} {enc : α → List Value} {w : World} {g n c : Nat} {r : Option Nat} {l : List α} (h : SRow E sz enc w (.slice (some ⟨g, 0, none⟩) n c) r l) (he : ∀ x, (enc x).length = sz) (h0 : 0 < l.length) (a m : Nat) :
    ∀ k u, (((l.drop a).take m).flatMap enc)[k]? = some u → w.cell? ((⟨g, a * sz, none⟩ : Addr).add k) = some u := by
  obtain ⟨g', cur, hA, _, _, _, _, hh, _, ht⟩ := h.at_ h0
  injection hA with hA
  injection hA with hA
  subst hA
  intro k u hk
  rw [Addr.add_lit, blkCell hh, ← Array.getElem?_toList]
  rw [← flatTake he, ← flatDrop he, List.getElem?_take] at hk
  split at hk
  · rw [List.getElem?_drop, ← ht, List.getElem?_take] at hk
    split at hk
    · exact hk
    · cases hk
  · cases hk
theorem NW0 {w : World} {g n c : Nat} {r : Option Nat} {l : List Pk} (h : PRow w (.slice (some ⟨g, 0, none⟩) n c) r l) (h0 : 0 < l.length) (m : Nat) : ∀ k u, ((l.take m).flatMap Pk.enc)[k]? = some u → w.cell? ((⟨g, 0, none⟩ : Addr).add k) = some u := by
  have h1 := h.news Pk.len h0 0 m
  rw [List.drop_zero, Nat.zero_mul] at h1
  exact h1
theorem NWtail {w : World} {g n c : Nat} {r : Option Nat} {l : List Pk} (h : PRow w (.slice (some ⟨g, 0, none⟩) n c) r l) (h0 : 0 < l.length) (hlc : l.length ≤ c) (j : Nat) (A : Addr) (hA : (if c = j + 1 then some (⟨g, 0, none⟩ : Addr) else some ⟨g, (j + 1) * 3, none⟩) = some A) :
    ∀ k u, ((l.drop (j + 1)).flatMap Pk.enc)[k]? = some u → w.cell? (A.add k) = some u := by
  intro k u hk
  split at hA
  · rw [List.drop_eq_nil_of_le (by omega)] at hk
    simp at hk
  · injection hA with hA
    subst hA
    have h1 := h.news Pk.len h0 (j + 1) (l.length - (j + 1)) k u
    rw [List.take_of_length_le (by rw [List.length_drop]; omega)] at h1
    exact h1 hk
/-- The row of a network is the one that it was, or a new one. -/
def Newer (w : World) (r r' : Option Nat) : Prop := ∀ k, r' = some k → r = some k ∨ w.heap.size ≤ k
theorem Next.newer {w : World} {r r' : Option Nat} (h : Next w r r') : Newer w r r' := fun _ hk => h.mem hk
theorem Newer.refl (w : World) (r : Option Nat) : Newer w r r := fun _ hk => .inl hk
theorem Newer.trans {w w1 : World} {r r1 r2 : Option Nat} (h : Newer w r r1) (h2 : Newer w1 r1 r2) (hs : w.heap.size ≤ w1.heap.size) : Newer w r r2 := fun k hk =>
  (h2 k hk).elim (fun e => h k e) (fun e => .inr (Nat.le_trans hs e))

theorem rTake_ok (w : World) (b : Nat) (r : Option Nat) (l : List Pk) (lost : Int) (h : NetAt 66 w b r l lost) (j : Nat) (p : Pk) (hj : l[j]? = some p) (hl : l.length ≤ 64) :
    Calls Try.prog 37 #[.pointer (some ⟨b, 0, none⟩), .int .i64 j] w fun e w' => e = .returned (.tuple #[p.val, .int .i64 0]) ∧ ∃ r', NetAt 66 w' b r' (l.eraseIdx j) lost ∧ Newer w r r' ∧ Chg (fun k => k = b ∨ r = some k) w w' := by
  have hlt := h.lt
  obtain ⟨g, c, hv1, hr, hjl, hv2, _⟩ := h.packet j p hj
  have hrb := hv2.ne hv1 (by decide)
  have hgl : g < w.heap.size := (hv2.lt hr).1
  have H := Lib.hid h
  have HV := Lib.hid hv1
  have HR := Lib.hid hv2
  have HB := Lib.hid hrb
  have HJ := Lib.hid hj
  have HQ := Lib.hid hr
  have HNZ : Hid (¬ r = some w.heap.size) := Lib.hid (by rw [hr]; intro e; injection e with e; omega)
  clear h hv1 hv2 hrb hj hr
  have e1 : IntKind.i64.wrap ((j : Int) + 1) = (j : Int) + 1 := IntWalk.i64_in _ (by omega)
  have hlen1 : (([] : List Pk) ++ l.take j).length = j := by simp; omega
  have hlj : (([] : List Pk).length + j) * 32 ≤ 140737488355328 := by
    simp
    omega
  have htake : (l.take j).length = j := by simp; omega
  have hlc : l.length ≤ c := by
    obtain ⟨_, _, _, _, _, h1, _⟩ := HR.out.at_ (by omega)
    exact h1
  have hjc : j ≤ c := by omega
  have hjc1 : j + 1 ≤ c := by omega
  have hp0 : (0 : Int) ≤ (j : Int) + 1 := by omega
  have hp1 : (j : Int) + 1 ≤ (l.length : Int) := by omega
  go_enter Try.func37, Try.ntmps37
  obtain ⟨A0, hA⟩ : ∃ A0 : Addr, (if c = j + 1 then some (⟨g, 0, none⟩ : Addr) else some ⟨g, (j + 1) * 3, none⟩) = some A0 := by
    split
    · exact ⟨_, rfl⟩
    · exact ⟨_, rfl⟩
  have HA := Lib.hid hA
  have hlj2 : ((([] : List Pk) ++ l.take j).length + (l.length - (j + 1))) * 32 ≤ 140737488355328 := by
    rw [hlen1]
    omega
  have hdrop : (l.drop (j + 1)).length = l.length - (j + 1) := by simp
  have hlen2 : (([] : List Pk) ++ l.take j ++ l.drop (j + 1)).length = l.length - 1 := by
    simp
    omega
  have hlen : (l.eraseIdx j).length = l.length - 1 := by rw [List.length_eraseIdx, if_pos hjl]
  have hers : (([] : List Pk) ++ l.take j ++ l.drop (j + 1)) = l.eraseIdx j := by rw [List.nil_append, List.eraseIdx_eq_take_drop_succ]
  go_wp2_with (first
    | (go_at_call 45; refine (rLook_ok _ b r l lost (by exact H.out.kept ((Chg.refl _ w).alloc (.cells #[.int .i64 0, .int .i64 0, .string ⟨#[]⟩] 45))) j p HJ.out).mono ?_; rintro r0 w1 ⟨rfl, hg⟩; simp only [Pk.val]; have HG := Lib.hid (Chg.kept hg); have HZ := Lib.hid (hg.obj (blkAlloc w (.cells #[.int .i64 0, .int .i64 0, .string ⟨#[]⟩] 45)) id); have HL := hg.past; have HV1 := Lib.hid (HG.out.obj HV.out id); have HR1 := Lib.hid (HR.out.chg HG.out (fun _ _ => id)); clear hg; obtain ⟨z0, z1, z2, y0, y1, y2⟩ := pkCells HZ.out; obtain ⟨c0, c1, f0, f1⟩ := netCells HV1.out; have hb1 : b < w1.heap.size := (by omega); have hbz : ¬ w.heap.size = b := (by omega); have hbz' : ¬ b = w.heap.size := (by omega); have HNP : Hid (¬ r = some w1.heap.size) := Lib.hid (fun e => absurd (HR.out.lt e).1 (by omega)); have hpb : ¬ w1.heap.size = b := (by omega); have hpb' : ¬ b = w1.heap.size := (by omega); have HNW1 := Lib.hid (NW0 (HR1.out.alloc (.cells #[.int .i64 p.f, .int .i64 p.t, .string p.b] 45)) (Nat.lt_of_le_of_lt (Nat.zero_le _) hjl) j))
    | (at_builtin; refine wpList_sappends (w1.alloc (.cells #[.int .i64 p.f, .int .i64 p.t, .string p.b] 45)) rfl (.tmp 17) (.tmp 23) 39 32 rfl Try.underlying39 elem_pk Pk.len Pk.one (.slice none 0 0) none [] (l.take j) (by rfl) ⟨g, 0, none⟩ j c (by rfl) (SRow.nil _) htake (by exact HNW1.out) hlj (by omega) ?_; intro A1 n1 w2 r1 hrow hnext hgrow; have hg := Chg.bare hgrow; simp only [hlen1] at hrow ⊢; have HROW1 := Lib.hid hrow; have HNX1 := Lib.hid hnext; have HG2 := Lib.hid hg; have HVW := Lib.hid (((Chg.refl (fun _ => False) w1).alloc (.cells #[.int .i64 p.f, .int .i64 p.t, .string p.b] 45)).obj HV1.out id); have HZW := Lib.hid (((Chg.refl (fun _ => False) w1).alloc (.cells #[.int .i64 p.f, .int .i64 p.t, .string p.b] 45)).obj HZ.out id); have HPW := Lib.hid (blkAlloc w1 (.cells #[.int .i64 p.f, .int .i64 p.t, .string p.b] 45)); have HV2 := Lib.hid (hg.obj HVW.out (fun e => by cases e)); have HZ2 := Lib.hid (hg.obj HZW.out (fun e => by cases e)); have HP2 := Lib.hid (hg.obj HPW.out (fun e => by cases e)); clear z0 z1 z2 y0 y1 y2 c0 c1 f0 f1; obtain ⟨z0, z1, z2, y0, y1, y2⟩ := pkCells HZ2.out; obtain ⟨c0, c1, f0, f1⟩ := netCells HV2.out; obtain ⟨p0, p1, p2, q0, q1, q2⟩ := pkCells HP2.out; have hw12 := hg.past; have HR2 := Lib.hid ((HR1.out.alloc (.cells #[.int .i64 p.f, .int .i64 p.t, .string p.b] 45)).chg hg (fun k _ e => by cases e)); clear hg hrow hnext hgrow)
    | (at_builtin; refine wpList_sappends w2 rfl (.tmp 26) (.tmp 33) 39 32 rfl Try.underlying39 elem_pk Pk.len Pk.one (.slice A1 j n1) r1 ([] ++ l.take j) (l.drop (j + 1)) (by rfl) A0 (l.length - (j + 1)) (c - (j + 1)) (by rfl) (by exact hlen1 ▸ HROW1.out) hdrop (by exact NWtail HR2.out (Nat.lt_of_le_of_lt (Nat.zero_le _) hjl) hlc j A0 HA.out) hlj2 (by omega) ?_; intro A2 n2 w3 r2 hrow hnext hgrow; have hg := Chg.bare hgrow; rw [hlen2]; rw [hers] at hrow; have HROW3 := Lib.hid hrow; have HNX2 := Lib.hid hnext; have HG3 := Lib.hid hg; have HV3 := Lib.hid (hg.obj HV2.out (HNX1.out.ne (blkLt HVW.out) (fun e => by cases e))); have HZ3 := Lib.hid (hg.obj HZ2.out (HNX1.out.ne (blkLt HZW.out) (fun e => by cases e))); have HP3 := Lib.hid (hg.obj HP2.out (HNX1.out.ne (blkLt HPW.out) (fun e => by cases e))); clear z0 z1 z2 y0 y1 y2 c0 c1 f0 f1; obtain ⟨z0, z1, z2, y0, y1, y2⟩ := pkCells HZ3.out; obtain ⟨c0, c1, f0, f1⟩ := netCells HV3.out; obtain ⟨p0, p1, p2, q0, q1, q2⟩ := pkCells HP3.out; have hw23 := hg.size; clear hg hrow hnext hgrow))
  refine bodyPost_ret (v := .tuple #[p.val, .int .i64 0]) (by simp [results, go_sem, Pk.val, Pk.none, *]) rfl ⟨rfl, ?_⟩
  have hb2 := NetAt.laid (by decide) HV2.out (HNX1.out.ne (blkLt HVW.out) (fun e => by cases e)) (by exact HROW3.out) HG3.out
  rw [hlen] at hb2
  have hbe : b ≠ w.heap.size := by omega
  have hnew1 : ∀ k, r1 = some k → w.heap.size ≤ k ∧ w1.heap.size < k + 1 := fun k e => (HNX1.out.mem e).elim (fun e => by cases e) (fun h => by simp at h; omega)
  have hnew2 : ∀ k, r2 = some k → w.heap.size < k := fun k e => (HNX2.out.mem e).elim (fun e => by have := hnew1 k e; omega) (fun h => by omega)
  refine ⟨r2, NetAt.chg (S := fun k => k = w.heap.size) hb2.1 ?_ hbe (fun k hk e => by have := hnew2 k hk; omega), fun k e => .inr (Nat.le_of_lt (hnew2 k e)), ?_⟩
  · repeat (first | exact Chg.refl _ _ | refine Chg.cellOf ?_ _ _)
  · have hc1 : Chg (fun k => k = b ∨ r = some k) w w2 := Chg.trans (HG.out.nix.alloc _) HG2.out (fun k e => by cases e)
    have hc2 := hc1.trans (S' := fun k => k = b ∨ r1 = some k) hb2.2 (fun k hk => hk.elim (fun e => .inl (.inl e)) (fun e => .inr (hnew1 k e).1))
    repeat (first | exact hc2 | refine Chg.setCell ?_ (.inr (Nat.le_refl _)) _)
/-- Send, as the document has it. -/
instance (p : Pk) : Decidable (okP p) := inferInstanceAs (Decidable (0 ≤ p.f ∧ p.f ≤ 63 ∧ 0 ≤ p.t ∧ p.t ≤ 63))
def sendF (l : List Pk) (lost : Int) (p : Pk) : Int × List Pk × Int :=
  if ¬ okP p then (1, l, lost) else if 65536 < p.b.size then (4, l, lost) else if 64 ≤ l.length then (6, l, wrap64 (lost + 1)) else (0, l ++ [p], lost)
theorem sendF_len (l : List Pk) (lost : Int) (p : Pk) (h : l.length ≤ 64) : (sendF l lost p).2.1.length ≤ 64 := by
  unfold sendF
  split
  · exact h
  · split
    · exact h
    · split
      · exact h
      · simp
        omega

theorem Send_calls (w : World) (b : Nat) (r : Option Nat) (l : List Pk) (lost : Int) (h : NetAt 41 w b r l lost) (p : Pk) : Calls Try.prog 17 #[.pointer (some ⟨b, 0, none⟩), Pk.val p] w fun e w' => e = .returned (.int .i64 (sendF l lost p).1) ∧ ∃ r', NetAt 41 w' b r' (sendF l lost p).2.1 (sendF l lost p).2.2 ∧ Newer w r r' ∧ Chg (fun k => k = b ∨ r = some k) w w' := by
  unfold sendF
  split
  · rename_i h1
    exact (Send_arg w b r l lost h p h1).mono fun e w' ⟨h1, h2, h3⟩ => ⟨h1, r, h2, Newer.refl _ _, h3⟩
  · rename_i h1
    have h1 := Decidable.not_not.1 h1
    split
    · rename_i h2
      exact (Send_long w b r l lost h p h1 h2).mono fun e w' ⟨h1, h2, h3⟩ => ⟨h1, r, h2, Newer.refl _ _, h3⟩
    · rename_i h2
      split
      · rename_i h3
        exact (Send_full w b r l lost h p h1 (by omega) h3).mono fun e w' ⟨h1, h2, h3⟩ => ⟨h1, r, h2, Newer.refl _ _, h3⟩
      · rename_i h3
        exact (Send_ok w b r l lost h p h1 (by omega) (by omega)).mono fun e w' ⟨h1, r', h2, h3, h4⟩ => ⟨h1, r', h2, h3.newer, h4⟩
theorem rSend_calls (w : World) (b : Nat) (r : Option Nat) (l : List Pk) (lost : Int) (h : NetAt 66 w b r l lost) (p : Pk) : Calls Try.prog 46 #[.pointer (some ⟨b, 0, none⟩), Pk.val p] w fun e w' => e = .returned (.int .i64 (sendF l lost p).1) ∧ ∃ r', NetAt 66 w' b r' (sendF l lost p).2.1 (sendF l lost p).2.2 ∧ Newer w r r' ∧ Chg (fun k => k = b ∨ r = some k) w w' := by
  unfold sendF
  split
  · rename_i h1
    exact (rSend_arg w b r l lost h p h1).mono fun e w' ⟨h1, h2, h3⟩ => ⟨h1, r, h2, Newer.refl _ _, h3⟩
  · rename_i h1
    have h1 := Decidable.not_not.1 h1
    split
    · rename_i h2
      exact (rSend_long w b r l lost h p h1 h2).mono fun e w' ⟨h1, h2, h3⟩ => ⟨h1, r, h2, Newer.refl _ _, h3⟩
    · rename_i h2
      split
      · rename_i h3
        exact (rSend_full w b r l lost h p h1 (by omega) h3).mono fun e w' ⟨h1, h2, h3⟩ => ⟨h1, r, h2, Newer.refl _ _, h3⟩
      · rename_i h3
        exact (rSend_ok w b r l lost h p h1 (by omega) (by omega)).mono fun e w' ⟨h1, r', h2, h3, h4⟩ => ⟨h1, r', h2, h3.newer, h4⟩
theorem Drop_none (w : World) (b : Nat) (r : Option Nat) (l : List Pk) (lost : Int) (h : NetAt 41 w b r l lost) (i : Int) (hi : i < 0 ∨ (l.length : Int) ≤ i) :
    Calls Try.prog 38 #[.pointer (some ⟨b, 0, none⟩), .int .i64 i] w fun e w' => e = .returned (.int .i64 5) ∧ Chg (fun _ => False) w w' := by
  have H := Lib.hid h
  clear h
  go_enter Try.func38, Try.ntmps38
  go_wp2_with (go_at_call 20; refine (Take_none _ b r l lost (by exact H.out) i hi).mono ?_; rintro r0 w1 ⟨rfl, hg⟩; simp only [Pk.val, Pk.none]; have HG := Lib.hid hg; clear hg)
  go_ret
  exact ⟨rfl, HG.out.alloc _⟩
theorem Drop_ok (w : World) (b : Nat) (r : Option Nat) (l : List Pk) (lost : Int) (h : NetAt 41 w b r l lost) (j : Nat) (p : Pk) (hj : l[j]? = some p) (hl : l.length ≤ 64) :
    Calls Try.prog 38 #[.pointer (some ⟨b, 0, none⟩), .int .i64 j] w fun e w' => e = .returned (.int .i64 0) ∧ ∃ r', NetAt 41 w' b r' (l.eraseIdx j) lost ∧ Newer w r r' ∧ Chg (fun k => k = b ∨ r = some k) w w' := by
  have H := Lib.hid h
  have HJ := Lib.hid hj
  clear h hj
  go_enter Try.func38, Try.ntmps38
  go_wp2_with (go_at_call 20; refine (Take_ok _ b r l lost (by exact H.out) j p HJ.out hl).mono ?_; rintro r0 w1 ⟨rfl, hg⟩; simp only [Pk.val]; have HG := Lib.hid hg; clear hg)
  go_ret
  exact ⟨rfl, r, HG.out.1.kept ((Chg.refl _ _).alloc _), Newer.refl _ _, HG.out.2.alloc _⟩
theorem Twice_none (w : World) (b : Nat) (r : Option Nat) (l : List Pk) (lost : Int) (h : NetAt 41 w b r l lost) (i : Int) (hi : i < 0 ∨ (l.length : Int) ≤ i) :
    Calls Try.prog 40 #[.pointer (some ⟨b, 0, none⟩), .int .i64 i] w fun e w' => e = .returned (.int .i64 5) ∧ Chg (fun _ => False) w w' := by
  have H := Lib.hid h
  clear h
  go_enter Try.func40, Try.ntmps40
  go_wp2_with (go_at_call 44; refine (Look_none _ b r l lost (by exact H.out) i hi).mono ?_; rintro r0 w1 ⟨rfl, hg⟩; simp only [Pk.val, Pk.none]; have HG := Lib.hid hg; clear hg)
  go_ret
  exact ⟨rfl, HG.out.alloc _⟩
theorem Twice_ok (w : World) (b : Nat) (r : Option Nat) (l : List Pk) (lost : Int) (h : NetAt 41 w b r l lost) (j : Nat) (p : Pk) (hj : l[j]? = some p) :
    Calls Try.prog 40 #[.pointer (some ⟨b, 0, none⟩), .int .i64 j] w fun e w' => e = .returned (.int .i64 (sendF l lost p).1) ∧ ∃ r', NetAt 41 w' b r' (sendF l lost p).2.1 (sendF l lost p).2.2 ∧ Newer w r r' ∧ Chg (fun k => k = b ∨ r = some k) w w' := by
  have H := Lib.hid h
  have HJ := Lib.hid hj
  clear h hj
  go_enter Try.func40, Try.ntmps40
  go_wp2_with (first
    | (go_at_call 44; refine (Look_ok _ b r l lost (by exact H.out) j p HJ.out).mono ?_; rintro r0 w1 ⟨rfl, hg⟩; simp only [Pk.val]; have HG := Lib.hid hg; clear hg)
    | (go_at_call 17; refine (Send_calls _ b r l lost (by exact (H.out.kept HG.out).kept ((Chg.refl _ _).alloc _)) p).mono ?_; rintro r0 w2 ⟨rfl, hg⟩; have HG2 := Lib.hid hg; clear hg))
  go_ret
  obtain ⟨r1, h1, h2, h3⟩ := HG2.out
  have hsz := (HG.out.alloc (.cells #[.int .i64 p.f, .int .i64 p.t, .string p.b] 45)).size
  exact ⟨rfl, r1, h1, (Newer.refl w r).trans h2 hsz, (HG.out.nix.alloc _).trans h3 (fun _ hk => .inl hk)⟩
theorem rDrop_none (w : World) (b : Nat) (r : Option Nat) (l : List Pk) (lost : Int) (h : NetAt 66 w b r l lost) (i : Int) (hi : i < 0 ∨ (l.length : Int) ≤ i) :
    Calls Try.prog 39 #[.pointer (some ⟨b, 0, none⟩), .int .i64 i] w fun e w' => e = .returned (.int .i64 5) ∧ Chg (fun _ => False) w w' := by
  have H := Lib.hid h
  clear h
  go_enter Try.func39, Try.ntmps39
  go_wp2_with (go_at_call 37; refine (rTake_none _ b r l lost (by exact H.out) i hi).mono ?_; rintro r0 w1 ⟨rfl, hg⟩; simp only [Pk.val, Pk.none]; have HG := Lib.hid hg; clear hg)
  go_ret
  exact ⟨rfl, HG.out.alloc _⟩
theorem rDrop_ok (w : World) (b : Nat) (r : Option Nat) (l : List Pk) (lost : Int) (h : NetAt 66 w b r l lost) (j : Nat) (p : Pk) (hj : l[j]? = some p) (hl : l.length ≤ 64) :
    Calls Try.prog 39 #[.pointer (some ⟨b, 0, none⟩), .int .i64 j] w fun e w' => e = .returned (.int .i64 0) ∧ ∃ r', NetAt 66 w' b r' (l.eraseIdx j) lost ∧ Newer w r r' ∧ Chg (fun k => k = b ∨ r = some k) w w' := by
  have H := Lib.hid h
  have HJ := Lib.hid hj
  clear h hj
  go_enter Try.func39, Try.ntmps39
  go_wp2_with (go_at_call 37; refine (rTake_ok _ b r l lost (by exact H.out) j p HJ.out hl).mono ?_; rintro r0 w1 ⟨rfl, hg⟩; simp only [Pk.val]; have HG := Lib.hid hg; clear hg)
  go_ret
  obtain ⟨r1, h1, h2, h3⟩ := HG.out
  exact ⟨rfl, r1, h1.kept ((Chg.refl _ _).alloc _), h2, h3.alloc _⟩
theorem rTwice_none (w : World) (b : Nat) (r : Option Nat) (l : List Pk) (lost : Int) (h : NetAt 66 w b r l lost) (i : Int) (hi : i < 0 ∨ (l.length : Int) ≤ i) :
    Calls Try.prog 41 #[.pointer (some ⟨b, 0, none⟩), .int .i64 i] w fun e w' => e = .returned (.int .i64 5) ∧ Chg (fun _ => False) w w' := by
  have H := Lib.hid h
  clear h
  go_enter Try.func41, Try.ntmps41
  go_wp2_with (go_at_call 45; refine (rLook_none _ b r l lost (by exact H.out) i hi).mono ?_; rintro r0 w1 ⟨rfl, hg⟩; simp only [Pk.val, Pk.none]; have HG := Lib.hid hg; clear hg)
  go_ret
  exact ⟨rfl, HG.out.alloc _⟩
theorem rTwice_ok (w : World) (b : Nat) (r : Option Nat) (l : List Pk) (lost : Int) (h : NetAt 66 w b r l lost) (j : Nat) (p : Pk) (hj : l[j]? = some p) :
    Calls Try.prog 41 #[.pointer (some ⟨b, 0, none⟩), .int .i64 j] w fun e w' => e = .returned (.int .i64 (sendF l lost p).1) ∧ ∃ r', NetAt 66 w' b r' (sendF l lost p).2.1 (sendF l lost p).2.2 ∧ Newer w r r' ∧ Chg (fun k => k = b ∨ r = some k) w w' := by
  have H := Lib.hid h
  have HJ := Lib.hid hj
  clear h hj
  go_enter Try.func41, Try.ntmps41
  go_wp2_with (first
    | (go_at_call 45; refine (rLook_ok _ b r l lost (by exact H.out) j p HJ.out).mono ?_; rintro r0 w1 ⟨rfl, hg⟩; simp only [Pk.val]; have HG := Lib.hid hg; clear hg)
    | (go_at_call 46; refine (rSend_calls _ b r l lost (by exact (H.out.kept HG.out).kept ((Chg.refl _ _).alloc _)) p).mono ?_; rintro r0 w2 ⟨rfl, hg⟩; have HG2 := Lib.hid hg; clear hg))
  go_ret
  obtain ⟨r1, h1, h2, h3⟩ := HG2.out
  have hsz := (HG.out.alloc (.cells #[.int .i64 p.f, .int .i64 p.t, .string p.b] 45)).size
  exact ⟨rfl, r1, h1, (Newer.refl w r).trans h2 hsz, (HG.out.nix.alloc _).trans h3 (fun _ hk => .inl hk)⟩
end Go.Proofs.Ytjlkflbkejpcaaa

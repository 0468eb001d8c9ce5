/- Look of both networks. -/
import Derived.Test.YtjlkflbkejpcaaaNet
namespace Go.Proofs.Ytjlkflbkejpcaaa
open Go.RowKit

/-- No packet. -/
def Pk.none : Pk := ⟨0, 0, ⟨#[]⟩⟩
/-- The cells of a packet of a network. -/
theorem NetAt.packet {T : TypeId} {w : World} {b : Nat} {r : Option Nat} {l : List Pk} {lost : Int} (h : NetAt T w b r l lost) (j : Nat) (p : Pk) (hj : l[j]? = some p) :
    ∃ g c, w.heap[b]? = some (.cells #[.slice (some ⟨g, 0, none⟩) l.length c, .int .i64 lost] T (0, 0)) ∧ r = some g ∧ j < l.length ∧ PRow w (.slice (some ⟨g, 0, none⟩) l.length c) r l ∧
      w.cell? ⟨g, j * 3, none⟩ = some (.int .i64 p.f) ∧ w.cell? ⟨g, j * 3 + 1, none⟩ = some (.int .i64 p.t) ∧ w.cell? ⟨g, j * 3 + 2, none⟩ = some (.string p.b) := by
  obtain ⟨A, c, h1, h2⟩ := h
  have hl : j < l.length := (List.getElem?_eq_some_iff.1 hj).1
  obtain ⟨g, cur, rfl, hr, _⟩ := h2.at_ (by omega)
  exact ⟨g, c, h1, hr, hl, h2, (h2.cell Pk.len j 0 p hj (by omega) _ rfl).1, (h2.cell Pk.len j 1 p hj (by omega) _ rfl).1, (h2.cell Pk.len j 2 p hj (by omega) _ rfl).1⟩

theorem Look_none (w : World) (b : Nat) (r : Option Nat) (l : List Pk) (lost : Int) (h : NetAt 41 w b r l lost) (i : Int) (hi : i < 0 ∨ (l.length : Int) ≤ i) :
    Calls Try.prog 44 #[.pointer (some ⟨b, 0, none⟩), .int .i64 i] w fun e w' => e = .returned (.tuple #[Pk.none.val, .int .i64 5]) ∧ Chg (fun _ => False) w w' := by
  have H := Lib.hid h
  obtain ⟨A, c, hv1, hv2⟩ := h
  have c0 : w.cell? ⟨b, 0, none⟩ = some (.slice A l.length c) := blkCell hv1 0
  have hlt : b < w.heap.size := (Array.getElem?_eq_some_iff.1 hv1).1
  clear hv1 hv2
  by_cases h1 : i < 0
  · clear hi
    go_enter Try.func44, Try.ntmps44
    go_wp2_with (go_at_call 18; refine (Count_calls _ _ _ _ _ (by exact H.out.chg (S := fun _ => False) ((Chg.refl _ _).alloc _) id (fun _ _ => id))).mono ?_; rintro r0 w0 ⟨rfl, rfl⟩)
    refine bodyPost_ret (v := .tuple #[Pk.none.val, .int .i64 5]) (by simp [results, go_sem, Pk.val, Pk.none]) rfl ⟨rfl, ?_⟩
    exact (Chg.refl _ w).alloc _
  · have h2 : (l.length : Int) ≤ i := by omega
    clear hi
    go_enter Try.func44, Try.ntmps44
    go_wp2_with (go_at_call 18; refine (Count_calls _ _ _ _ _ (by exact H.out.chg (S := fun _ => False) ((Chg.refl _ _).alloc _) id (fun _ _ => id))).mono ?_; rintro r0 w0 ⟨rfl, rfl⟩)
    refine bodyPost_ret (v := .tuple #[Pk.none.val, .int .i64 5]) (by simp [results, go_sem, Pk.val, Pk.none]) rfl ⟨rfl, ?_⟩
    exact (Chg.refl _ w).alloc _
theorem Look_ok (w : World) (b : Nat) (r : Option Nat) (l : List Pk) (lost : Int) (h : NetAt 41 w b r l lost) (j : Nat) (p : Pk) (hj : l[j]? = some p) :
    Calls Try.prog 44 #[.pointer (some ⟨b, 0, none⟩), .int .i64 j] w fun e w' => e = .returned (.tuple #[p.val, .int .i64 0]) ∧ Chg (fun _ => False) w w' := by
  have H := Lib.hid h
  have hlt := h.lt
  obtain ⟨g, c, hv1, _, hjl, hv2, d0, d1, d2⟩ := h.packet j p hj
  have c0 : w.cell? ⟨b, 0, none⟩ = some (.slice (some ⟨g, 0, none⟩) l.length c) := blkCell hv1 0
  have hgl : g < w.heap.size := by
    obtain ⟨_, _, hA, _, _, _, _, hh, _⟩ := hv2.at_ (by omega)
    injection hA with hA
    injection hA with hA
    subst hA
    exact (Array.getElem?_eq_some_iff.1 hh).1
  clear hv1 hv2 h hj
  have h0 : ¬ (j : Int) < 0 := by omega
  have h2 : ¬ (l.length : Int) ≤ (j : Int) := by omega
  go_enter Try.func44, Try.ntmps44
  go_wp2_with (go_at_call 18; refine (Count_calls _ _ _ _ _ (by exact H.out.chg (S := fun _ => False) ((Chg.refl _ _).alloc _) id (fun _ _ => id))).mono ?_; rintro r0 w0 ⟨rfl, rfl⟩)
  refine bodyPost_ret (v := .tuple #[p.val, .int .i64 0]) (by simp [results, go_sem, Pk.val, Pk.none]) rfl ⟨rfl, ?_⟩
  exact (Chg.refl _ w).alloc _
theorem Look_nil (w : World) (i : Int) :
    Calls Try.prog 44 #[.pointer none, .int .i64 i] w fun e w' => e = .returned (.tuple #[Pk.none.val, .int .i64 5]) ∧ Chg (fun _ => False) w w' := by
  by_cases h1 : i < 0
  · go_enter Try.func44, Try.ntmps44
    go_wp2_with (go_at_call 18; refine (Count_nil _).mono ?_; rintro r0 w0 ⟨rfl, rfl⟩)
    refine bodyPost_ret (v := .tuple #[Pk.none.val, .int .i64 5]) (by simp [results, go_sem, Pk.val, Pk.none]) rfl ⟨rfl, ?_⟩
    exact (Chg.refl _ w).alloc _
  · have h2 : 0 ≤ i := by omega
    go_enter Try.func44, Try.ntmps44
    go_wp2_with (go_at_call 18; refine (Count_nil _).mono ?_; rintro r0 w0 ⟨rfl, rfl⟩)
    refine bodyPost_ret (v := .tuple #[Pk.none.val, .int .i64 5]) (by simp [results, go_sem, Pk.val, Pk.none]) rfl ⟨rfl, ?_⟩
    exact (Chg.refl _ w).alloc _
theorem rLook_none (w : World) (b : Nat) (r : Option Nat) (l : List Pk) (lost : Int) (h : NetAt 66 w b r l lost) (i : Int) (hi : i < 0 ∨ (l.length : Int) ≤ i) :
    Calls Try.prog 45 #[.pointer (some ⟨b, 0, none⟩), .int .i64 i] w fun e w' => e = .returned (.tuple #[Pk.none.val, .int .i64 5]) ∧ Chg (fun _ => False) w w' := by
  have H := Lib.hid h
  obtain ⟨A, c, hv1, hv2⟩ := h
  have c0 : w.cell? ⟨b, 0, none⟩ = some (.slice A l.length c) := blkCell hv1 0
  have hlt : b < w.heap.size := (Array.getElem?_eq_some_iff.1 hv1).1
  clear hv1 hv2
  by_cases h1 : i < 0
  · clear hi
    go_enter Try.func45, Try.ntmps45
    go_wp2
    refine bodyPost_ret (v := .tuple #[Pk.none.val, .int .i64 5]) (by simp [results, go_sem, Pk.val, Pk.none]) rfl ⟨rfl, ?_⟩
    exact (Chg.refl _ w).alloc _
  · have h2 : (l.length : Int) ≤ i := by omega
    clear hi
    go_enter Try.func45, Try.ntmps45
    go_wp2
    refine bodyPost_ret (v := .tuple #[Pk.none.val, .int .i64 5]) (by simp [results, go_sem, Pk.val, Pk.none]) rfl ⟨rfl, ?_⟩
    exact (Chg.refl _ w).alloc _
theorem rLook_ok (w : World) (b : Nat) (r : Option Nat) (l : List Pk) (lost : Int) (h : NetAt 66 w b r l lost) (j : Nat) (p : Pk) (hj : l[j]? = some p) :
    Calls Try.prog 45 #[.pointer (some ⟨b, 0, none⟩), .int .i64 j] w fun e w' => e = .returned (.tuple #[p.val, .int .i64 0]) ∧ Chg (fun _ => False) w w' := by
  have H := Lib.hid h
  have hlt := h.lt
  obtain ⟨g, c, hv1, _, hjl, hv2, d0, d1, d2⟩ := h.packet j p hj
  have c0 : w.cell? ⟨b, 0, none⟩ = some (.slice (some ⟨g, 0, none⟩) l.length c) := blkCell hv1 0
  have hgl : g < w.heap.size := by
    obtain ⟨_, _, hA, _, _, _, _, hh, _⟩ := hv2.at_ (by omega)
    injection hA with hA
    injection hA with hA
    subst hA
    exact (Array.getElem?_eq_some_iff.1 hh).1
  clear hv1 hv2 h hj
  have h0 : ¬ (j : Int) < 0 := by omega
  have h2 : ¬ (l.length : Int) ≤ (j : Int) := by omega
  go_enter Try.func45, Try.ntmps45
  go_wp2
  refine bodyPost_ret (v := .tuple #[p.val, .int .i64 0]) (by simp [results, go_sem, Pk.val, Pk.none]) rfl ⟨rfl, ?_⟩
  exact (Chg.refl _ w).alloc _
end Go.Proofs.Ytjlkflbkejpcaaa

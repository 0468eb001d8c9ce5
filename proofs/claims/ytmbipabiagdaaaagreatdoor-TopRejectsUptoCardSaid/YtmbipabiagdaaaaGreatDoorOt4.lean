/- strings.Builder: copyCheck and WriteString, as the one-time signatures use them. -/
import Derived.Shelf.Strings.Builder1
import Derived.Test.YtmbipabiagdaaaaGreatDoorShT
namespace Go.Proofs.YtmbipabiagdaaaaGreatDoor
open Go.RowKit
theorem shape_of {w : World} {b : Nat} {c : Array Value} {T : TypeId} (h : w.heap[b]? = some (.cells c T (0, 0))) : w.shape? b = some (T, c.size) := by
  simp [World.shape?, h]
set_option maxRecDepth 100000 in
theorem copyFresh (w : World) (b : Nat) (v : Value) (h : w.heap[b]? = some (.cells #[.pointer none, v] 75 (0, 0))) :
    Calls Tryz.prog 59 #[.pointer (some ⟨b, 0, none⟩)] w fun e w' => e = .returned (.tuple #[]) ∧ w' = w.setCell ⟨b, 0, none⟩ (.pointer (some ⟨b, 0, none⟩)) := by
  have hc : w.cell? ⟨b, 0, none⟩ = some (.pointer none) := blkCell h 0
  have hf := blkFree h 0
  have hsh := shape_of h
  obtain ⟨j, hj, hjs⟩ := Option.map_eq_some_iff.1 (show (Tryz.prog.info? 75).map (·.size) = some 2 from by kernel_rfl)
  have m1 := Lib.run_to_unsafe w ⟨b, 0, none⟩ Tryz.underlying72 Tryz.underlying133 hj (by rw [hjs]; decide) hsh (by show 0 < 2; decide)
  have m2 := run_callFunc_extern (P := Tryz.prog) Tryz.func108 (by kernel_rfl) (by kernel_rfl) (by kernel_rfl) (e := Extern.AbiNoEscape.same) (by kernel_rfl) #[.pointer (some ⟨b, 0, none⟩)] w
  rw [Lib.run_noEscape] at m2
  have m3 := Lib.run_from_unsafe w ⟨b, 0, none⟩ Tryz.underlying133 Tryz.underlying72 hj hsh (by kernel_rfl)
  clear h hjs hj
  go_enter Tryz.func59, Tryz.ntmps59
  go_wp2_with fail
  go_end0
  exact ⟨rfl, rfl⟩
set_option maxRecDepth 100000 in
theorem copyUsed (w : World) (b : Nat) (v : Value) (h : w.heap[b]? = some (.cells #[.pointer (some ⟨b, 0, none⟩), v] 75 (0, 0))) :
    Calls Tryz.prog 59 #[.pointer (some ⟨b, 0, none⟩)] w fun e w' => e = .returned (.tuple #[]) ∧ w' = w := by
  have hc : w.cell? ⟨b, 0, none⟩ = some (.pointer (some ⟨b, 0, none⟩)) := blkCell h 0
  obtain ⟨j, hj, _⟩ := Option.map_eq_some_iff.1 (show (Tryz.prog.info? 75).map (·.size) = some 2 from by kernel_rfl)
  have m1 := Lib.run_neq_ptr_same w ⟨b, 0, none⟩ Tryz.underlying72 hj
  go_enter Tryz.func59, Tryz.ntmps59
  go_wp2_with fail
  go_end0
  exact ⟨rfl, rfl⟩
/-- A builder of one's own, laid behind w0. -/
def Bd (w0 w : World) (b : Nat) (bs : List UInt8) : Prop :=
  w0.heap.size ≤ b ∧ ∃ p v r, (p = .pointer none ∨ p = .pointer (some ⟨b, 0, none⟩)) ∧ w.heap[b]? = some (.cells #[p, v] 75 (0, 0)) ∧ Row w 5 v r bs ∧ (∀ k, r = some k → w0.heap.size ≤ k) ∧ Chg (fun _ => False) w0 w
theorem copy_calls (w0 w : World) (b : Nat) (bs : List UInt8) (h : Bd w0 w b bs) :
    Calls Tryz.prog 59 #[.pointer (some ⟨b, 0, none⟩)] w fun e w' => e = .returned (.tuple #[]) ∧ w0.heap.size ≤ b ∧ ∃ v r, w'.heap[b]? = some (.cells #[.pointer (some ⟨b, 0, none⟩), v] 75 (0, 0)) ∧ Row w' 5 v r bs ∧ (∀ k, r = some k → w0.heap.size ≤ k) ∧ Chg (fun _ => False) w0 w' := by
  obtain ⟨hb, p, v, r, rfl | rfl, hc, hr, hk, hg⟩ := h
  · refine (copyFresh w b v hc).mono ?_
    rintro e w' ⟨rfl, rfl⟩
    have g1 : Chg (fun k => k = b) w (w.setCell ⟨b, 0, none⟩ (.pointer (some ⟨b, 0, none⟩))) := (Chg.refl (fun k => k = b) w).setCell (p := ⟨b, 0, none⟩) (.inl rfl) _
    refine ⟨rfl, hb, v, r, blkSet hc 0 _, hr.chg g1 (fun k e hkb => ?_), hk, hg.setCell (.inr hb) _⟩
    subst hkb
    exact hr.ne hc (by decide) e
  · refine (copyUsed w b v hc).mono ?_
    rintro e w' ⟨rfl, rfl⟩
    exact ⟨rfl, hb, v, r, hc, hr, hk, hg⟩
set_option maxRecDepth 100000 in
theorem write_calls (w0 w : World) (b : Nat) (bs : List UInt8) (s : ByteArray) (h : Bd w0 w b bs) (hl : bs.length + s.size ≤ 140737488355328) :
    Calls Tryz.prog 22 #[.pointer (some ⟨b, 0, none⟩), .string s] w fun e w' => (∃ u, e = .returned u) ∧ Bd w0 w' b (bs ++ s.data.toList) := by
  have H := Lib.hid h
  clear h
  go_enter Tryz.func22, Tryz.ntmps22
  go_wp2_with fail
  refine (copy_calls w0 w b bs H.out).mono ?_
  rintro e w1 ⟨rfl, hb, v, r, hc, hr, hk, hg⟩
  have HC := Lib.hid hc
  have HK := Lib.hid hk
  have HG := Lib.hid hg
  obtain ⟨A0, m0, q0, rfl⟩ := hr.slice
  have c1 : w1.cell? ⟨b, 1, none⟩ = some (.slice A0 m0 q0) := blkCell hc 1
  have NE := Lib.hid (hr.ne hc (by decide))
  have HR := Lib.hid hr
  clear hc hk hg hr
  go_wp2_with (at_builtin; refine wpList_append_str w1 rfl (.tmp 12) (.tmp 13) 73 9 5 rfl Tryz.underlying73 Tryz.underlying9 info_u8 (.slice A0 m0 q0) r bs s rfl rfl HR.out hl ?_; intro A3 n3 c3 w3 r3 hrow hnext hgrow; have HROW := Lib.hid hrow; have HNEXT := Lib.hid hnext; have HGROW := Lib.hid hgrow; have HB := Lib.hid ((hgrow.block b (blkLt HC.out) (fun e => NE.out e.symm)).trans HC.out); have d1 : w3.cell? ⟨b, 1, none⟩ = some (.slice A0 m0 q0) := blkCell HB.out 1; have f1 := blkFree HB.out 1; clear hrow hnext hgrow)
  go_ret2
  have g3 : Chg (fun k => r = some k) w1 w3 := (Chg.refl _ w1).grown HGROW.out (fun _ hk => .inl hk)
  have NE3 : r3 ≠ some b := HROW.out.ne HB.out (by decide)
  have g4 : Chg (fun k => k = b) w3 (w3.setCell ⟨b, 1, none⟩ (.slice A3 n3 c3)) := (Chg.refl (fun k => k = b) w3).setCell (p := ⟨b, 1, none⟩) (.inl rfl) _
  refine ⟨⟨_, rfl⟩, hb, _, .slice A3 n3 c3, r3, .inr rfl, blkSet HB.out 1 _, HROW.out.chg g4 (fun k e hkb => NE3 (hkb ▸ e)), fun k e => ?_, ((HG.out.trans g3 (fun k hk => .inr (HK.out k hk))).setCell (p := ⟨b, 1, none⟩) (.inr hb) _)⟩
  rcases HNEXT.out with h1 | ⟨k', h1, h2⟩
  · exact HK.out k (h1 ▸ e)
  · rw [h1] at e
    obtain rfl : k' = k := by injection e
    exact Nat.le_trans HG.out.size h2
end Go.Proofs.YtmbipabiagdaaaaGreatDoor

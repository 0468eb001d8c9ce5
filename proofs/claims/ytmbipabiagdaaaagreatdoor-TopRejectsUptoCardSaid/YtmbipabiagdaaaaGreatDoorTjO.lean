/- TopRejects: a Builder of one's own: String. -/
import Derived.Test.YtmbipabiagdaaaaGreatDoorOt4
import Derived.Test.YtmbipabiagdaaaaGreatDoorTjA
namespace Go.Proofs.YtmbipabiagdaaaaGreatDoor
open Go.RowKit
theorem Bd.is {w0 w : World} {b : Nat} {bs : List UInt8} (h : Bd w0 w b bs) : Lib.IsBuilder 75 5 w0.heap.size b (Lib.byteCells bs) w := by
  obtain ⟨hb, p, v, r, hp, hc, hr, hk, _⟩ := h
  have hne : v.ownBlock ≠ some b := by
    have := hr.2
    rw [this]
    exact Row.ne hr hc (by decide)
  have hown : w.ownsRow w0.heap.size 5 1 v (Lib.byteCells bs).length (Lib.byteCells bs) := by
    obtain ⟨⟨h1, h2⟩, h3⟩ := hr
    have hl : (Lib.byteCells bs).length = bs.length := by simp [Lib.byteCells]
    rw [hl]
    refine ⟨h1, ?_⟩
    rcases h2 with h2 | ⟨g, cap, cur, rfl, _, h4⟩
    · exact .inl h2
    · exact .inr ⟨g, cap, cur, rfl, hk g h3.symm, h4⟩
  rcases hp with rfl | rfl
  · exact .inl ⟨hb, v, hc, hown, hne⟩
  · exact .inr ⟨hb, v, hc, hown, hne⟩
theorem string_calls (w0 w : World) (b : Nat) (bs : List UInt8) (h : Bd w0 w b bs) :
    Calls Tryz.prog 24 #[.pointer (some ⟨b, 0, none⟩)] w fun e w' => e = .returned (.string (strOf bs)) ∧ Chg (fun _ => False) w0 w' := by
  have hg : Chg (fun _ => False) w0 w := by obtain ⟨_, _, _, _, _, _, _, _, hg⟩ := h; exact hg
  refine (Tryz.Builder_String_any w0.heap.size b bs w h.is hg.size).mono ?_
  rintro e w' ⟨rfl, hb⟩
  exact ⟨rfl, hb.os.trans hg.os, hb.tape.trans hg.tape, hb.output.trans hg.output, Nat.le_trans hg.size hb.size, fun k hk hn => (hb.block k hk).trans (hg.block k hk hn)⟩
theorem Bd.kept {w0 w w1 : World} {b : Nat} {bs : List UInt8} (h : Bd w0 w b bs) (c : Chg (fun _ => False) w w1) : Bd w0 w1 b bs := by
  obtain ⟨hb, p, v, r, hp, hc, hr, hk, hg⟩ := h
  exact ⟨hb, p, v, r, hp, (c.block b (blkLt hc) (fun h => h)).trans hc, hr.chg c (fun _ _ h => h), hk, hg.trans c (fun _ h => .inl h)⟩
theorem Bd.new (w : World) : Bd w (w.alloc (.cells #[.pointer none, .slice none 0 0] 75)) w.heap.size [] :=
  ⟨Nat.le_refl _, _, _, none, .inl rfl, blkAlloc w _, Row.nil _ _, ⟨(fun k (h : none = some k) => nomatch h), (Chg.refl _ w).alloc _⟩⟩
/-- Blocks of other types than a Builder's stay. -/
def KeptB (w w' : World) : Prop := ∀ (k : Nat) (cs : Array Value) (T : TypeId), w.heap[k]? = some (.cells cs T (0, 0)) → T ≠ 75 → T ≠ 5 → w'.heap[k]? = some (.cells cs T (0, 0))
theorem KeptB.refl (w : World) : KeptB w w := fun _ _ _ h _ _ => h
theorem KeptB.trans {w w1 w2 : World} (h : KeptB w w1) (h2 : KeptB w1 w2) : KeptB w w2 := fun k cs T hk a b => h2 k cs T (h k cs T hk a b) a b
theorem copy3 (w0 w : World) (b : Nat) (bs : List UInt8) (h : Bd w0 w b bs) :
    Calls Tryz.prog 59 #[.pointer (some ⟨b, 0, none⟩)] w fun e w' => e = .returned (.tuple #[]) ∧ w0.heap.size ≤ b ∧ ∃ v r, w'.heap[b]? = some (.cells #[.pointer (some ⟨b, 0, none⟩), v] 75 (0, 0)) ∧ Row w' 5 v r bs ∧ (∀ k, r = some k → w0.heap.size ≤ k) ∧ Chg (fun _ => False) w0 w' ∧ KeptB w w' := by
  obtain ⟨hb, p, v, r, rfl | rfl, hc, hr, hk, hg⟩ := h
  · refine (copyFresh w b v hc).mono ?_
    rintro e w' ⟨rfl, rfl⟩
    have g1 : Chg (fun k => k = b) w (w.setCell ⟨b, 0, none⟩ (.pointer (some ⟨b, 0, none⟩))) := (Chg.refl (fun k => k = b) w).setCell (p := ⟨b, 0, none⟩) (.inl rfl) _
    refine ⟨rfl, hb, v, r, blkSet hc 0 _, hr.chg g1 (fun k e hkb => ?_), hk, hg.setCell (.inr hb) _, fun k cs T hk hT _ => g1.obj hk (blkNe hk hc hT)⟩
    subst hkb
    exact hr.ne hc (by decide) e
  · refine (copyUsed w b v hc).mono ?_
    rintro e w' ⟨rfl, rfl⟩
    exact ⟨rfl, hb, v, r, hc, hr, hk, hg, KeptB.refl _⟩
set_option maxRecDepth 100000 in
theorem write3 (w0 w : World) (b : Nat) (bs : List UInt8) (s : ByteArray) (h : Bd w0 w b bs) (hl : bs.length + s.size ≤ 140737488355328) :
    Calls Tryz.prog 22 #[.pointer (some ⟨b, 0, none⟩), .string s] w fun e w' => (∃ u, e = .returned u) ∧ Bd w0 w' b (bs ++ s.data.toList) ∧ KeptB w w' := by
  have H := Lib.hid h
  clear h
  go_enter Tryz.func22, Tryz.ntmps22
  go_wp2_with fail
  refine (copy3 w0 w b bs H.out).mono ?_
  rintro e w1 ⟨rfl, hb, v, r, hc, hr, hk, hg, hkb⟩
  have KB := Lib.hid hkb
  clear hkb
  have HC := Lib.hid hc
  have HK := Lib.hid hk
  have HG := Lib.hid hg
  obtain ⟨A0, m0, q0, rfl⟩ := hr.slice
  have c1 : w1.cell? ⟨b, 1, none⟩ = some (.slice A0 m0 q0) := blkCell hc 1
  have NE := Lib.hid (hr.ne hc (by decide))
  have HR := Lib.hid hr
  clear hc hk hg hr
  go_wp2_with (at_builtin; refine wpList_append_str w1 rfl (.tmp 12) (.tmp 13) 73 9 5 rfl Tryz.underlying73 Tryz.underlying9 info_u8 (.slice A0 m0 q0) r bs s rfl rfl HR.out hl ?_; intro A3 n3 c3 w3 r3 hrow hnext hgrow; have HROW := Lib.hid hrow; have HNEXT := Lib.hid hnext; have HGROW := Lib.hid hgrow; have HB := Lib.hid ((hgrow.block b (blkLt HC.out) (fun e => NE.out e.symm)).trans HC.out); have d1 : w3.cell? ⟨b, 1, none⟩ = some (.slice A0 m0 q0) := blkCell HB.out 1; have f1 := blkFree HB.out 1; clear hrow hnext hgrow)
  go_ret2
  have g3 : Chg (fun k => r = some k) w1 w3 := (Chg.refl _ w1).grown HGROW.out (fun _ hk => .inl hk)
  have NE3 : r3 ≠ some b := HROW.out.ne HB.out (by decide)
  have g4 : Chg (fun k => k = b) w3 (w3.setCell ⟨b, 1, none⟩ (.slice A3 n3 c3)) := (Chg.refl (fun k => k = b) w3).setCell (p := ⟨b, 1, none⟩) (.inl rfl) _
  have hkept : KeptB w1 (w3.setCell ⟨b, 1, none⟩ (.slice A3 n3 c3)) := fun k cs T hk hT1 hT2 => by
    have hkb : k ≠ b := blkNe hk HC.out hT1
    have hkr : r ≠ some k := HR.out.ne hk hT2
    exact g4.obj (g3.obj hk hkr) hkb
  refine ⟨⟨_, rfl⟩, ⟨hb, _, .slice A3 n3 c3, r3, .inr rfl, blkSet HB.out 1 _, HROW.out.chg g4 (fun k e hkb => NE3 (hkb ▸ e)), fun k e => ?_, ((HG.out.trans g3 (fun k hk => .inr (HK.out k hk))).setCell (p := ⟨b, 1, none⟩) (.inr hb) _)⟩, KB.out.trans hkept⟩
  rcases HNEXT.out with h1 | ⟨k', h1, h2⟩
  · exact HK.out k (h1 ▸ e)
  · rw [h1] at e
    obtain rfl : k' = k := by injection e
    exact Nat.le_trans HG.out.size h2
theorem Bd.chg0 {w0 w : World} {b : Nat} {bs : List UInt8} (h : Bd w0 w b bs) : Chg (fun _ => False) w0 w := by
  obtain ⟨_, _, _, _, _, _, _, _, hg⟩ := h
  exact hg
end Go.Proofs.YtmbipabiagdaaaaGreatDoor

/- Keys: writing into a strings.Builder beside other rows. -/
import Derived.Test.YtpdgkgdaaapngaaKyD
namespace Go.Proofs.Ytpdgkgdaaapngaa
open Go.RowKit
/-- A used builder in the block b: its bytes lie in the row r. -/
def BdR (w : World) (b : Nat) (r : Option Nat) (bs : List UInt8) : Prop :=
  ∃ v, w.heap[b]? = some (.cells #[.pointer (some ⟨b, 0, none⟩), v] 104 (0, 0)) ∧ Row w 5 v r bs
theorem BdR.chg {w w1 : World} {b : Nat} {r : Option Nat} {bs : List UInt8} {S : Nat → Prop} (h : BdR w b r bs) (c : Chg S w w1) (hb : ¬ S b) (hr : ∀ k, r = some k → ¬ S k) : BdR w1 b r bs := by
  obtain ⟨v, h1, h2⟩ := h
  exact ⟨v, c.obj h1 hb, h2.chg c hr⟩
def encB (x : UInt8) : List Value := [.int .u8 x.toNat]
theorem encB_len (x : UInt8) : (encB x).length = 1 := rfl
theorem encB_one (x : UInt8) : ∀ u ∈ encB x, u.oneCell' = true := by
  intro u hu
  rw [encB, List.mem_singleton] at hu
  subst hu
  rfl
theorem bcells_flat (bs : List UInt8) : bs.flatMap encB = bcells bs := by
  induction bs with
  | nil => rfl
  | cons x l ih => rw [List.flatMap_cons, ih]; rfl
theorem Row.srow {w : World} {e : TypeId} {v : Value} {r : Option Nat} {bs : List UInt8} (h : SRow e 1 encB w v r bs) : Row w e v r bs := by
  obtain ⟨h1, h2⟩ := h
  rw [bcells_flat] at h1
  exact ⟨h1, h2⟩
theorem elemB : ElemInfo Try.prog 5 1 1 := ElemInfo.mk' (z := .int .u8 0) info_u8 rfl (by decide)
set_option maxRecDepth 100000 in
theorem Write_calls (w : World) (b g : Nat) (ys : List UInt8) (m : Nat) (hm : ys.length = m) (hm0 : 0 < m) (hm2 : m ≤ 1024)
    (hb : w.heap[b]? = some (.cells #[.pointer none, .slice none 0 0] 104 (0, 0))) (hg : w.heap[g]? = some (.cells (bcells ys).toArray 5 (0, 0))) :
    Calls Try.prog 58 #[.pointer (some ⟨b, 0, none⟩), .slice (some ⟨g, 0, none⟩) m m] w fun e w' => (∃ u, e = .returned u) ∧ ∃ r, BdR w' b r ys ∧ (∀ k, r = some k → w.heap.size ≤ k) ∧ Chg (fun k => k = b) w w' := by
  have g1 : Chg (fun k => k = b) w (w.setCell ⟨b, 0, none⟩ (.pointer (some ⟨b, 0, none⟩))) := (Chg.refl (fun k => k = b) w).setCell (p := ⟨b, 0, none⟩) (.inl rfl) _
  have hb1 : (w.setCell ⟨b, 0, none⟩ (.pointer (some ⟨b, 0, none⟩))).heap[b]? = some (.cells #[.pointer (some ⟨b, 0, none⟩), .slice none 0 0] 104 (0, 0)) := blkSet hb 0 _
  have hg1 := g1.obj hg (blkNe hg hb (by decide))
  obtain ⟨w1, hw1⟩ : ∃ w1, w.setCell ⟨b, 0, none⟩ (.pointer (some ⟨b, 0, none⟩)) = w1 := ⟨_, rfl⟩
  rw [hw1] at g1 hb1 hg1
  have c1 : w1.cell? ⟨b, 1, none⟩ = some (.slice none 0 0) := blkCell hb1 1
  have HC := Lib.hid (copyFresh w b (.slice none 0 0) hb)
  have HB1 := Lib.hid hb1
  have HG1 := Lib.hid g1
  have HY : Hid (∀ j u, (ys.flatMap encB)[j]? = some u → w1.cell? ((⟨g, 0, none⟩ : Addr).add j) = some u) := Lib.hid (fun j u hu => by
    rw [bcells_flat] at hu
    have e : Addr.add ⟨g, 0, none⟩ j = ⟨g, j, none⟩ := by
      by_cases h0 : j = 0
      · subst h0; rfl
      · simp [Addr.add, h0]
    rw [e, blkCell hg1 j, ← hu]
    simp)
  clear hb hg hb1 hg1 g1
  go_enter Try.func58, Try.ntmps58
  go_wp2_with fail
  refine (HC.out).mono ?_
  rintro e w2 ⟨rfl, he⟩
  rw [hw1] at he
  subst he
  clear hw1
  go_wp2_with (at_builtin; refine wpList_sappends w2 rfl (.tmp 12) (.tmp 13) 34 1 rfl Try.underlying34 elemB encB_len encB_one (.slice none 0 0) none [] ys rfl ⟨g, 0, none⟩ m m rfl (SRow.nil w2) hm HY.out (by simp; omega) (by decide) ?_; intro A3 c3 w3 r3 hrow hnext hgrow; have HROW := Lib.hid (Row.srow hrow); have HNEXT := Lib.hid hnext; have HGROW := Lib.hid hgrow; have HB := Lib.hid ((hgrow.block b (blkLt HB1.out) (fun e => nomatch e)).trans HB1.out); have d1 : w3.cell? ⟨b, 1, none⟩ = some (.slice none 0 0) := blkCell HB.out 1; have f1 := blkFree HB.out 1; clear hrow hnext hgrow)
  go_ret2
  have hrow2 := HROW.out
  rw [List.nil_append, hm] at hrow2
  have g3 : Chg (fun k => k = b) w2 w3 := (Chg.refl _ w2).grown HGROW.out (fun _ hk => nomatch hk)
  have NE3 : r3 ≠ some b := HROW.out.ne HB.out (by decide)
  have g4 : Chg (fun k => k = b) w3 (w3.setCell ⟨b, 1, none⟩ (.slice A3 m c3)) := (Chg.refl (fun k => k = b) w3).setCell (p := ⟨b, 1, none⟩) (.inl rfl) _
  refine ⟨⟨_, rfl⟩, r3, ⟨_, blkSet HB.out 1 _, hrow2.chg g4 (fun k e hkb => NE3 (hkb ▸ e))⟩, fun k e => ?_, (HG1.out.trans g3 (fun _ h => .inl h)).trans g4 (fun _ h => .inl h)⟩
  rcases HNEXT.out.mem e with h1 | h1
  · cases h1
  · exact Nat.le_trans HG1.out.size h1
set_option maxRecDepth 100000 in
theorem WriteString2_calls (w : World) (b : Nat) (r : Option Nat) (bs : List UInt8) (s : ByteArray) (h : BdR w b r bs) (hl : bs.length + s.size ≤ 140737488355328) :
    Calls Try.prog 60 #[.pointer (some ⟨b, 0, none⟩), .string s] w fun e w' => (∃ u, e = .returned u) ∧ ∃ r', BdR w' b r' (bs ++ s.data.toList) ∧ Next w r r' ∧ Chg (fun k => k = b ∨ r = some k) w w' := by
  obtain ⟨v, hb, hr⟩ := h
  have HC := Lib.hid (copyUsed w b v hb)
  obtain ⟨A0, m0, q0, rfl⟩ := hr.slice
  have c1 : w.cell? ⟨b, 1, none⟩ = some (.slice A0 m0 q0) := blkCell hb 1
  have NE := Lib.hid (hr.ne hb (by decide))
  have HR := Lib.hid hr
  have HB0 := Lib.hid hb
  clear hb hr
  go_enter Try.func60, Try.ntmps60
  go_wp2_with fail
  refine (HC.out).mono ?_
  rintro e w2 ⟨rfl, rfl⟩
  go_wp2_with (at_builtin; refine wpList_append_str w2 rfl (.tmp 12) (.tmp 13) 34 9 5 rfl Try.underlying34 Try.underlying9 info_u8 (.slice A0 m0 q0) r bs s rfl rfl HR.out hl ?_; intro A3 n3 c3 w3 r3 hrow hnext hgrow; have HROW := Lib.hid hrow; have HNEXT := Lib.hid hnext; have HGROW := Lib.hid hgrow; have HB := Lib.hid ((hgrow.block b (blkLt HB0.out) (fun e => NE.out e.symm)).trans HB0.out); have d1 : w3.cell? ⟨b, 1, none⟩ = some (.slice A0 m0 q0) := blkCell HB.out 1; have f1 := blkFree HB.out 1; clear hrow hnext hgrow)
  go_ret2
  have g3 : Chg (fun k => k = b ∨ r = some k) w2 w3 := (Chg.refl _ w2).grown HGROW.out (fun _ hk => .inl (.inr hk))
  have NE3 : r3 ≠ some b := HROW.out.ne HB.out (by decide)
  have g4 : Chg (fun k => k = b) w3 (w3.setCell ⟨b, 1, none⟩ (.slice A3 n3 c3)) := (Chg.refl (fun k => k = b) w3).setCell (p := ⟨b, 1, none⟩) (.inl rfl) _
  exact ⟨⟨_, rfl⟩, r3, ⟨_, blkSet HB.out 1 _, HROW.out.chg g4 (fun k e hkb => NE3 (hkb ▸ e))⟩, HNEXT.out, g3.trans g4 (fun k hk => .inl (.inl hk))⟩
/-- A world as it would be with its first n blocks alone. -/
def cutW (w : World) (n : Nat) : World := { w with heap := w.heap.extract 0 n }
theorem cutW_size (w : World) (n : Nat) (h : n ≤ w.heap.size) : (cutW w n).heap.size = n := by
  show (w.heap.extract 0 n).size = n
  simp
  omega
theorem cutW_chg (w : World) (n : Nat) (h : n ≤ w.heap.size) : Chg (fun _ => False) (cutW w n) w :=
  ⟨rfl, rfl, rfl, by rw [cutW_size w n h]; exact h, fun k hk _ => by
    rw [cutW_size w n h] at hk
    show _ = (w.heap.extract 0 n)[k]?
    rw [Array.getElem?_extract]
    simp
    omega⟩
theorem BdR.bd {w0 w : World} {b : Nat} {r : Option Nat} {bs : List UInt8} (h : BdR w b r bs) (hs : w0.heap.size ≤ w.heap.size) (hb : w0.heap.size ≤ b) (hr : ∀ k, r = some k → w0.heap.size ≤ k) : Bd (cutW w w0.heap.size) w b bs := by
  obtain ⟨v, h1, h2⟩ := h
  have e := cutW_size w w0.heap.size hs
  exact ⟨by rw [e]; exact hb, _, v, r, .inr rfl, h1, h2, fun k hk => by rw [e]; exact hr k hk, cutW_chg w w0.heap.size hs⟩
theorem Chg.uncut {S : Nat → Prop} {w0 w w1 : World} (h : Chg S w0 w) (h2 : Chg (fun _ => False) (cutW w w0.heap.size) w1) : Chg S w0 w1 := by
  have e := cutW_size w w0.heap.size h.size
  have c := cutW_chg w w0.heap.size h.size
  refine ⟨h2.os.trans h.os, h2.tape.trans h.tape, h2.output.trans h.output, ?_, fun k hk hn => ?_⟩
  · have := h2.size
    rw [e] at this
    exact this
  · rw [h2.block k (by rw [e]; exact hk) id, ← c.block k (by rw [e]; exact hk) id]
    exact h.block k hk hn
theorem Chg.freeze {S : Nat → Prop} {w w1 : World} (h : Chg S w w1) {p : Addr} (hp : S p.block ∨ w.heap.size ≤ p.block) (n : Nat) : Chg S w (w1.freeze p n) := by
  unfold World.freeze
  split
  · exact h
  · exact h.trans (S' := fun k => k = p.block) ⟨rfl, rfl, rfl, by simp, fun k _ hn => by
      simp only [Array.getElem?_modify]
      rw [if_neg (fun e => hn e.symm)]⟩ (fun k hk => by rw [hk]; exact hp)
set_option maxRecDepth 100000 in
theorem String2_calls (w : World) (b : Nat) (r : Option Nat) (l : List UInt8) (h : BdR w b r l) (h0 : l ≠ []) :
    Calls Try.prog 61 #[.pointer (some ⟨b, 0, none⟩)] w fun e w' => e = .returned (.string (strOf l)) ∧ Chg (fun k => r = some k) w w' := by
  obtain ⟨v, hb, ho, hr⟩ := h
  have hl0 : l.length ≠ 0 := by simpa using h0
  obtain ⟨g, cap, cur, rfl, hg, hnc, hcm, hcs⟩ : ∃ g cap cur, v = .slice (some ⟨g, 0, none⟩) l.length cap ∧ w.heap[g]? = some (.cells cur 5 (0, 0)) ∧ l.length ≤ cap ∧ cap ≤ maxLen ∧ cur.size = cap * 1 := by
    rcases ho.2 with ⟨_, hz⟩ | ⟨g, cap, cur, hv, _, r⟩
    · exact absurd hz hl0
    · exact ⟨g, cap, cur, hv, r.1, r.2.1, r.2.2.1, r.2.2.2.1⟩
  have hr2 : r = some g := hr.symm
  have hm : l.length ≤ 9223372036854775807 := by simp only [maxLen] at hcm; omega
  have c1 : w.drew.cell? ⟨b, 1, none⟩ = some (.slice (some ⟨g, 0, none⟩) l.length cap) := blkCell (w := w.drew) hb 1
  have hSD : (Builtin.unsafeSliceData_ #[34] 140 #[.slice (some ⟨g, 0, none⟩) l.length cap]).run Try.prog w.drew = .ok (.pointer (some ⟨g, 0, none⟩)) w.drew :=
    Lib.run_unsafeSliceData_row _ _ _ _ _ _ (by omega)
  have hUS : (Builtin.unsafeString_ #[140, 3] 9 #[.pointer (some ⟨g, 0, none⟩), .int .i64 l.length]).run Try.prog w.drew = .ok (.string ⟨l.toArray⟩) (w.drew.freeze ⟨g, 0, none⟩ l.length) := by
    refine Lib.run_unsafeString_row w.drew 140 3 9 5 Try.underlying140 (by kernel_rfl) g cur.size (shape_of (w := w.drew) hg) l h0 (by omega) hm ?_
    intro j x hx
    exact ho.cells (g := g) rfl j (.int .u8 x.toNat) (by simp [bcells, hx])
  have HF : Hid (Chg (fun k => r = some k) w (w.drew.freeze ⟨g, 0, none⟩ l.length)) := Lib.hid (Chg.freeze (Chg.refl _ w).drew (.inl hr2) _)
  clear hb ho hg hnc hcm hcs hr hl0
  go_enter Try.func61, Try.ntmps61
  go_wp2
  go_region
  all_goals (go_wp2; go_ret; exact ⟨rfl, HF.out⟩)
end Go.Proofs.Ytpdgkgdaaapngaa

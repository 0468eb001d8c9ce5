/- Both networks: what lies in their blocks; party, Count, Lost, Look and Send. -/
import Derived.Test.YtjlkflbkejpcaaaDel
import Derived.Test.YtjlkflbkejpcaaaWr
namespace Go.Proofs.Ytjlkflbkejpcaaa
open Go.RowKit

/-- A network in the block b: its packets l lie in the row r; lost: how many found no room. -/
def NetAt (T : TypeId) (w : World) (b : Nat) (r : Option Nat) (l : List Pk) (lost : Int) : Prop :=
  ∃ A c, w.heap[b]? = some (.cells #[.slice A l.length c, .int .i64 lost] T (0, 0)) ∧ PRow w (.slice A l.length c) r l
theorem NetAt.drew {T : TypeId} {w : World} {b : Nat} {r : Option Nat} {l : List Pk} {lost : Int} (h : NetAt T w b r l lost) : NetAt T w.drew b r l lost := h
theorem NetAt.drewN {T : TypeId} {w : World} {b : Nat} {r : Option Nat} {l : List Pk} {lost : Int} (h : NetAt T w b r l lost) (n : Nat) : NetAt T (w.drewN n) b r l lost := h
theorem NetAt.lt {T : TypeId} {w : World} {b : Nat} {r : Option Nat} {l : List Pk} {lost : Int} (h : NetAt T w b r l lost) : b < w.heap.size := by
  obtain ⟨A, c, h1, _⟩ := h
  exact (Array.getElem?_eq_some_iff.1 h1).1
theorem NetAt.chg {T : TypeId} {w w1 : World} {b : Nat} {r : Option Nat} {l : List Pk} {lost : Int} {S : Nat → Prop} (h : NetAt T w b r l lost) (hc : Chg S w w1) (hb : ¬ S b) (hr : ∀ k, r = some k → ¬ S k) : NetAt T w1 b r l lost := by
  obtain ⟨A, c, h1, h2⟩ := h
  exact ⟨A, c, hc.obj h1 hb, h2.chg hc hr⟩
theorem NetAt.fresh (T : TypeId) (w : World) : NetAt T (w.alloc (.cells #[.slice none 0 0, .int .i64 0] T)) w.heap.size none [] 0 :=
  ⟨none, 0, blkAlloc w _, SRow.nil _⟩
theorem NetAt.laid {T : TypeId} {w w1 : World} {b : Nat} {v : Value} {A1 : Option Addr} {c1 : Nat} {r r2 : Option Nat} {l1 : List Pk} {lost : Int} (hT : T ≠ 45)
    (hv : w.heap[b]? = some (.cells #[v, .int .i64 lost] T (0, 0))) (hr : r ≠ some b) (hrow : PRow w1 (.slice A1 l1.length c1) r2 l1) (hc : Chg (fun k => r = some k) w w1) :
    NetAt T (w1.setCell ⟨b, 0, none⟩ (.slice A1 l1.length c1)) b r2 l1 lost ∧ Chg (fun k => k = b ∨ r = some k) w (w1.setCell ⟨b, 0, none⟩ (.slice A1 l1.length c1)) := by
  have h1 := hc.obj hv hr
  refine ⟨⟨A1, c1, ?_, hrow.set (hrow.ne h1 hT) _⟩, (hc.mono fun k hk => .inl (.inr hk)).setCell (.inl (.inl rfl)) _⟩
  exact blkSet h1 0 _
theorem NetAt.counted {T : TypeId} {w : World} {b : Nat} {r : Option Nat} {l : List Pk} {lost : Int} (hT : T ≠ 45) (h : NetAt T w b r l lost) (x : Int) : NetAt T (w.setCell ⟨b, 1, none⟩ (.int .i64 x)) b r l x := by
  obtain ⟨A, c, h1, h2⟩ := h
  exact ⟨A, c, blkSet h1 1 _, h2.set (h2.ne h1 hT) _⟩

/-- May it be sent, by its parties? -/
def okP (p : Pk) : Prop := 0 ≤ p.f ∧ p.f ≤ 63 ∧ 0 ≤ p.t ∧ p.t ≤ 63
theorem Next.boxed {w : World} {o : Obj} {r r' : Option Nat} (h : Next (w.alloc o).drew r r') : Next w r r' :=
  h.imp id fun ⟨k, e, hk⟩ => ⟨k, e, by have : (w.alloc o).drew.heap.size = w.heap.size + 1 := by simp [World.drew]
                                       omega⟩
theorem Chg.kept {w w1 : World} {o : Obj} {S : Nat → Prop} (h : Chg S (w.alloc o) w1) : Chg S w w1 := ((Chg.refl S w).alloc o).trans h fun _ hk => .inl hk
theorem Chg.later {w w0 w1 : World} {S S' : Nat → Prop} (h0 : Chg S' w w0) (h : Chg S w0 w1) (hs : ∀ k, S' k → S k ∨ w.heap.size ≤ k) : Chg S w w1 := (h0.mono hs).trans h fun _ hk => .inl hk

theorem Keep.pair {w w1 : World} {b T : Nat} {v x : Value} {r : Option Nat} {o : Obj} (hv : w.heap[b]? = some (.cells #[v, x] T (0, 0))) (hr : r ≠ some b) (hg : (w.drew.alloc o).grownBy w1 r) : w1.cell? ⟨b, 0, none⟩ = some v ∧ w1.frozen? ⟨b, 0, none⟩ = false := by
  have h1 := (Chg.boxed hg).obj hv hr
  exact ⟨blkCell h1 0, blkFree h1 0⟩

theorem party_calls (w : World) (n : Int) : Calls Try.prog 65 #[.int .i64 n] w fun e w' => e = .returned (.bool (decide (0 ≤ n ∧ n ≤ 63))) ∧ w = w' := by
  by_cases h1 : 0 ≤ n
  · by_cases h2 : n ≤ 63
    · go_enter Try.func65, Try.ntmps65
      go_wp2
      go_ret
      simp [h1, h2]
    · go_enter Try.func65, Try.ntmps65
      go_wp2
      go_ret
      simp [h1, h2]
  · go_enter Try.func65, Try.ntmps65
    go_wp2
    go_ret
    simp
    omega
theorem party_yes (w : World) (n : Int) (h : 0 ≤ n ∧ n ≤ 63) : Calls Try.prog 65 #[.int .i64 n] w fun e w' => e = .returned (.bool true) ∧ w = w' :=
  (party_calls w n).mono fun e w' ⟨h1, h2⟩ => ⟨by rw [h1, decide_eq_true h], h2⟩
theorem party_no (w : World) (n : Int) (h : ¬ (0 ≤ n ∧ n ≤ 63)) : Calls Try.prog 65 #[.int .i64 n] w fun e w' => e = .returned (.bool false) ∧ w = w' :=
  (party_calls w n).mono fun e w' ⟨h1, h2⟩ => ⟨by rw [h1, decide_eq_false h], h2⟩
theorem Count_calls (w : World) (b : Nat) (r : Option Nat) (l : List Pk) (lost : Int) (h : NetAt 41 w b r l lost) :
    Calls Try.prog 18 #[.pointer (some ⟨b, 0, none⟩)] w fun e w' => e = .returned (.int .i64 l.length) ∧ w = w' := by
  obtain ⟨A, c, h1, h2⟩ := h
  have c0 : w.cell? ⟨b, 0, none⟩ = some (.slice A l.length c) := blkCell h1 0
  clear h1 h2
  go_enter Try.func18, Try.ntmps18
  go_wp2
  go_ret
  exact ⟨rfl, rfl⟩
theorem Count_nil (w : World) : Calls Try.prog 18 #[.pointer none] w fun e w' => e = .returned (.int .i64 0) ∧ w = w' := by
  go_enter Try.func18, Try.ntmps18
  go_wp2
  go_ret
  exact ⟨rfl, rfl⟩
theorem Lost_calls (w : World) (b : Nat) (r : Option Nat) (l : List Pk) (lost : Int) (h : NetAt 41 w b r l lost) :
    Calls Try.prog 19 #[.pointer (some ⟨b, 0, none⟩)] w fun e w' => e = .returned (.int .i64 lost) ∧ w = w' := by
  obtain ⟨A, c, h1, h2⟩ := h
  have c0 : w.cell? ⟨b, 1, none⟩ = some (.int .i64 lost) := blkCell h1 1
  clear h1 h2
  go_enter Try.func19, Try.ntmps19
  go_wp2
  go_ret
  exact ⟨rfl, rfl⟩
theorem Lost_nil (w : World) : Calls Try.prog 19 #[.pointer none] w fun e w' => e = .returned (.int .i64 0) ∧ w = w' := by
  go_enter Try.func19, Try.ntmps19
  go_wp2
  go_ret
  exact ⟨rfl, rfl⟩

theorem Send_arg (w : World) (b : Nat) (r : Option Nat) (l : List Pk) (lost : Int) (h : NetAt 41 w b r l lost) (p : Pk) (hp : ¬ okP p) : Calls Try.prog 17 #[.pointer (some ⟨b, 0, none⟩), Pk.val p] w fun e w' => e = .returned (.int .i64 1) ∧ NetAt 41 w' b r l lost ∧ Chg (fun k => k = b ∨ r = some k) w w' := by
  obtain ⟨pf, pt, pb⟩ := p
  unfold Pk.val
  have HE : Hid (NetAt 41 (w.alloc (.cells #[.int .i64 pf, .int .i64 pt, .string pb] 45)) b r l lost ∧ Chg (fun k => k = b ∨ r = some k) w (w.alloc (.cells #[.int .i64 pf, .int .i64 pt, .string pb] 45))) :=
    Lib.hid ⟨h.chg (S := fun _ => False) ((Chg.refl _ w).alloc _) id (fun _ _ => id), (Chg.refl _ w).alloc _⟩
  clear h
  simp only [okP] at hp
  by_cases h1 : 0 ≤ pf
  · by_cases h2 : pf ≤ 63
    · by_cases h3 : 0 ≤ pt
      · have h4 : ¬ pt ≤ 63 := fun h4 => hp ⟨h1, h2, h3, h4⟩
        clear hp
        go_enter Try.func17, Try.ntmps17
        go_wp2_with (go_at_call 65; (first | refine (party_yes _ _ (by omega)).mono ?_ | refine (party_no _ _ (by omega)).mono ?_); rintro r0 w0 ⟨rfl, rfl⟩)
        go_ret
        exact ⟨rfl, HE.out⟩
      · clear hp
        go_enter Try.func17, Try.ntmps17
        go_wp2_with (go_at_call 65; (first | refine (party_yes _ _ (by omega)).mono ?_ | refine (party_no _ _ (by omega)).mono ?_); rintro r0 w0 ⟨rfl, rfl⟩)
        go_ret
        exact ⟨rfl, HE.out⟩
    · clear hp
      go_enter Try.func17, Try.ntmps17
      go_wp2_with (go_at_call 65; (first | refine (party_yes _ _ (by omega)).mono ?_ | refine (party_no _ _ (by omega)).mono ?_); rintro r0 w0 ⟨rfl, rfl⟩)
      go_ret
      exact ⟨rfl, HE.out⟩
  · clear hp
    go_enter Try.func17, Try.ntmps17
    go_wp2_with (go_at_call 65; (first | refine (party_yes _ _ (by omega)).mono ?_ | refine (party_no _ _ (by omega)).mono ?_); rintro r0 w0 ⟨rfl, rfl⟩)
    go_ret
    exact ⟨rfl, HE.out⟩
theorem Send_long (w : World) (b : Nat) (r : Option Nat) (l : List Pk) (lost : Int) (h : NetAt 41 w b r l lost) (p : Pk) (hp : okP p) (hb : 65536 < p.b.size) : Calls Try.prog 17 #[.pointer (some ⟨b, 0, none⟩), Pk.val p] w fun e w' => e = .returned (.int .i64 4) ∧ NetAt 41 w' b r l lost ∧ Chg (fun k => k = b ∨ r = some k) w w' := by
  obtain ⟨pf, pt, pb⟩ := p
  unfold Pk.val
  have HE : Hid (NetAt 41 (w.alloc (.cells #[.int .i64 pf, .int .i64 pt, .string pb] 45)) b r l lost ∧ Chg (fun k => k = b ∨ r = some k) w (w.alloc (.cells #[.int .i64 pf, .int .i64 pt, .string pb] 45))) :=
    Lib.hid ⟨h.chg (S := fun _ => False) ((Chg.refl _ w).alloc _) id (fun _ _ => id), (Chg.refl _ w).alloc _⟩
  clear h
  obtain ⟨h1, h2, h3, h4⟩ := hp
  simp only at h1 h2 h3 h4 hb
  go_enter Try.func17, Try.ntmps17
  go_wp2_with (go_at_call 65; (first | refine (party_yes _ _ (by omega)).mono ?_ | refine (party_no _ _ (by omega)).mono ?_); rintro r0 w0 ⟨rfl, rfl⟩)
  go_ret
  exact ⟨rfl, HE.out⟩
theorem Send_full (w : World) (b : Nat) (r : Option Nat) (l : List Pk) (lost : Int) (h : NetAt 41 w b r l lost) (p : Pk) (hp : okP p) (hb : p.b.size ≤ 65536) (hl : 64 ≤ l.length) : Calls Try.prog 17 #[.pointer (some ⟨b, 0, none⟩), Pk.val p] w fun e w' => e = .returned (.int .i64 6) ∧ NetAt 41 w' b r l (wrap64 (lost + 1)) ∧ Chg (fun k => k = b ∨ r = some k) w w' := by
  obtain ⟨pf, pt, pb⟩ := p
  unfold Pk.val
  have HE := Lib.hid h
  have hlt := h.lt
  obtain ⟨A, c, hv1, hv2⟩ := h
  have c0 : w.cell? ⟨b, 0, none⟩ = some (.slice A l.length c) := blkCell hv1 0
  have c1 : w.cell? ⟨b, 1, none⟩ = some (.int .i64 lost) := blkCell hv1 1
  have f1 : w.frozen? ⟨b, 1, none⟩ = false := blkFree hv1 1
  clear hv1 hv2
  obtain ⟨h1, h2, h3, h4⟩ := hp
  simp only at h1 h2 h3 h4 hb
  have hl2 : (64 : Int) ≤ (l.length : Int) := by omega
  go_enter Try.func17, Try.ntmps17
  go_wp2_with (go_at_call 65; (first | refine (party_yes _ _ (by omega)).mono ?_ | refine (party_no _ _ (by omega)).mono ?_); rintro r0 w0 ⟨rfl, rfl⟩)
  go_ret
  exact ⟨rfl, (HE.out.counted (by decide) _).chg (S := fun _ => False) ((Chg.refl _ _).alloc _) id (fun _ _ => id), ((Chg.refl _ w).setCell (.inl (.inl rfl)) _).alloc _⟩
set_option maxRecDepth 100000 in
theorem Send_ok (w : World) (b : Nat) (r : Option Nat) (l : List Pk) (lost : Int) (h : NetAt 41 w b r l lost) (p : Pk) (hp : okP p) (hb : p.b.size ≤ 65536) (hl : l.length < 64) : Calls Try.prog 17 #[.pointer (some ⟨b, 0, none⟩), Pk.val p] w fun e w' => e = .returned (.int .i64 0) ∧ ∃ r', NetAt 41 w' b r' (l ++ [p]) lost ∧ Next w r r' ∧ Chg (fun k => k = b ∨ r = some k) w w' := by
  obtain ⟨pf, pt, pb⟩ := p
  unfold Pk.val
  have hlt := h.lt
  have HE := Lib.hid (h.chg (S := fun _ => False) (((Chg.refl _ w).alloc (.cells #[.int .i64 pf, .int .i64 pt, .string pb] 45))) id (fun _ _ => id))
  obtain ⟨A, c, hv1, hv2⟩ := h
  have c0 : w.cell? ⟨b, 0, none⟩ = some (.slice A l.length c) := blkCell hv1 0
  have f0 : w.frozen? ⟨b, 0, none⟩ = false := blkFree hv1 0
  have HB := Lib.hid (hv2.ne hv1 (by decide))
  have HV := Lib.hid (Below.heap_alloc w (.cells #[.int .i64 pf, .int .i64 pt, .string pb] 45) b hlt ▸ hv1)
  have HR := Lib.hid (hv2.alloc (.cells #[.int .i64 pf, .int .i64 pt, .string pb] 45))
  clear hv1 hv2
  obtain ⟨h1, h2, h3, h4⟩ := hp
  simp only at h1 h2 h3 h4 hb
  have hl2 : ¬ (64 : Int) ≤ (l.length : Int) := by omega
  go_enter Try.func17, Try.ntmps17
  go_wp2_with (go_at_call 65; (first | refine (party_yes _ _ (by omega)).mono ?_ | refine (party_no _ _ (by omega)).mono ?_); rintro r0 w0 ⟨rfl, rfl⟩)
  go_region_law (refine step_sappend (w.alloc (.cells #[.int .i64 pf, .int .i64 pt, .string pb] 45)).drew rfl (.tmp 43) (.tmp 45) 39 32 rfl Try.underlying39 elem_pk Pk.len Pk.one (.slice A l.length c) r l ⟨pf, pt, pb⟩ (by simp [Act.eval, Act.put]) (by simp [Act.eval, Act.put]) HR.out (by omega) (by omega) ?_; intro A1 c1 w1 r2 hrow hnext hgrow; have HROW := Lib.hid hrow; have HNEXT := Lib.hid hnext; have HGROW := Lib.hid hgrow; clear hrow hnext hgrow; have d1 := (Keep.pair HV.out HB.out HGROW.out).1; have d2 := (Keep.pair HV.out HB.out HGROW.out).2)
  all_goals
    go_wp2
    go_ret
    have hb2 := NetAt.laid (by decide) HV.out HB.out HROW.out (Chg.boxed HGROW.out)
    rw [show (l ++ [(⟨pf, pt, pb⟩ : Pk)]).length = l.length + 1 from by simp] at hb2
    exact ⟨rfl, r2, hb2.1, HNEXT.out.boxed, hb2.2.kept⟩
theorem rSend_arg (w : World) (b : Nat) (r : Option Nat) (l : List Pk) (lost : Int) (h : NetAt 66 w b r l lost) (p : Pk) (hp : ¬ okP p) : Calls Try.prog 46 #[.pointer (some ⟨b, 0, none⟩), Pk.val p] w fun e w' => e = .returned (.int .i64 1) ∧ NetAt 66 w' b r l lost ∧ Chg (fun k => k = b ∨ r = some k) w w' := by
  obtain ⟨pf, pt, pb⟩ := p
  unfold Pk.val
  have HE : Hid (NetAt 66 (w.alloc (.cells #[.int .i64 pf, .int .i64 pt, .string pb] 45)) b r l lost ∧ Chg (fun k => k = b ∨ r = some k) w (w.alloc (.cells #[.int .i64 pf, .int .i64 pt, .string pb] 45))) :=
    Lib.hid ⟨h.chg (S := fun _ => False) ((Chg.refl _ w).alloc _) id (fun _ _ => id), (Chg.refl _ w).alloc _⟩
  clear h
  simp only [okP] at hp
  by_cases h1 : 0 ≤ pf
  · by_cases h2 : pf ≤ 63
    · by_cases h3 : 0 ≤ pt
      · have h4 : ¬ pt ≤ 63 := fun h4 => hp ⟨h1, h2, h3, h4⟩
        clear hp
        go_enter Try.func46, Try.ntmps46
        go_wp2
        go_ret
        exact ⟨rfl, HE.out⟩
      · clear hp
        go_enter Try.func46, Try.ntmps46
        go_wp2
        go_ret
        exact ⟨rfl, HE.out⟩
    · clear hp
      go_enter Try.func46, Try.ntmps46
      go_wp2
      go_ret
      exact ⟨rfl, HE.out⟩
  · clear hp
    go_enter Try.func46, Try.ntmps46
    go_wp2
    go_ret
    exact ⟨rfl, HE.out⟩
theorem rSend_long (w : World) (b : Nat) (r : Option Nat) (l : List Pk) (lost : Int) (h : NetAt 66 w b r l lost) (p : Pk) (hp : okP p) (hb : 65536 < p.b.size) : Calls Try.prog 46 #[.pointer (some ⟨b, 0, none⟩), Pk.val p] w fun e w' => e = .returned (.int .i64 4) ∧ NetAt 66 w' b r l lost ∧ Chg (fun k => k = b ∨ r = some k) w w' := by
  obtain ⟨pf, pt, pb⟩ := p
  unfold Pk.val
  have HE : Hid (NetAt 66 (w.alloc (.cells #[.int .i64 pf, .int .i64 pt, .string pb] 45)) b r l lost ∧ Chg (fun k => k = b ∨ r = some k) w (w.alloc (.cells #[.int .i64 pf, .int .i64 pt, .string pb] 45))) :=
    Lib.hid ⟨h.chg (S := fun _ => False) ((Chg.refl _ w).alloc _) id (fun _ _ => id), (Chg.refl _ w).alloc _⟩
  clear h
  obtain ⟨h1, h2, h3, h4⟩ := hp
  simp only at h1 h2 h3 h4 hb
  go_enter Try.func46, Try.ntmps46
  go_wp2
  go_ret
  exact ⟨rfl, HE.out⟩
theorem rSend_full (w : World) (b : Nat) (r : Option Nat) (l : List Pk) (lost : Int) (h : NetAt 66 w b r l lost) (p : Pk) (hp : okP p) (hb : p.b.size ≤ 65536) (hl : 64 ≤ l.length) : Calls Try.prog 46 #[.pointer (some ⟨b, 0, none⟩), Pk.val p] w fun e w' => e = .returned (.int .i64 6) ∧ NetAt 66 w' b r l (wrap64 (lost + 1)) ∧ Chg (fun k => k = b ∨ r = some k) w w' := by
  obtain ⟨pf, pt, pb⟩ := p
  unfold Pk.val
  have HE := Lib.hid h
  have hlt := h.lt
  obtain ⟨A, c, hv1, hv2⟩ := h
  have c0 : w.cell? ⟨b, 0, none⟩ = some (.slice A l.length c) := blkCell hv1 0
  have c1 : w.cell? ⟨b, 1, none⟩ = some (.int .i64 lost) := blkCell hv1 1
  have f1 : w.frozen? ⟨b, 1, none⟩ = false := blkFree hv1 1
  clear hv1 hv2
  obtain ⟨h1, h2, h3, h4⟩ := hp
  simp only at h1 h2 h3 h4 hb
  have hl2 : (64 : Int) ≤ (l.length : Int) := by omega
  go_enter Try.func46, Try.ntmps46
  go_wp2
  go_ret
  exact ⟨rfl, (HE.out.counted (by decide) _).chg (S := fun _ => False) ((Chg.refl _ _).alloc _) id (fun _ _ => id), ((Chg.refl _ w).setCell (.inl (.inl rfl)) _).alloc _⟩
set_option maxRecDepth 100000 in
theorem rSend_ok (w : World) (b : Nat) (r : Option Nat) (l : List Pk) (lost : Int) (h : NetAt 66 w b r l lost) (p : Pk) (hp : okP p) (hb : p.b.size ≤ 65536) (hl : l.length < 64) : Calls Try.prog 46 #[.pointer (some ⟨b, 0, none⟩), Pk.val p] w fun e w' => e = .returned (.int .i64 0) ∧ ∃ r', NetAt 66 w' b r' (l ++ [p]) lost ∧ Next w r r' ∧ Chg (fun k => k = b ∨ r = some k) w w' := by
  obtain ⟨pf, pt, pb⟩ := p
  unfold Pk.val
  have hlt := h.lt
  have HE := Lib.hid (h.chg (S := fun _ => False) (((Chg.refl _ w).alloc (.cells #[.int .i64 pf, .int .i64 pt, .string pb] 45))) id (fun _ _ => id))
  obtain ⟨A, c, hv1, hv2⟩ := h
  have c0 : w.cell? ⟨b, 0, none⟩ = some (.slice A l.length c) := blkCell hv1 0
  have f0 : w.frozen? ⟨b, 0, none⟩ = false := blkFree hv1 0
  have HB := Lib.hid (hv2.ne hv1 (by decide))
  have HV := Lib.hid (Below.heap_alloc w (.cells #[.int .i64 pf, .int .i64 pt, .string pb] 45) b hlt ▸ hv1)
  have HR := Lib.hid (hv2.alloc (.cells #[.int .i64 pf, .int .i64 pt, .string pb] 45))
  clear hv1 hv2
  obtain ⟨h1, h2, h3, h4⟩ := hp
  simp only at h1 h2 h3 h4 hb
  have hl2 : ¬ (64 : Int) ≤ (l.length : Int) := by omega
  go_enter Try.func46, Try.ntmps46
  go_wp2
  go_region_law (refine step_sappend (w.alloc (.cells #[.int .i64 pf, .int .i64 pt, .string pb] 45)).drew rfl (.tmp 47) (.tmp 49) 39 32 rfl Try.underlying39 elem_pk Pk.len Pk.one (.slice A l.length c) r l ⟨pf, pt, pb⟩ (by simp [Act.eval, Act.put]) (by simp [Act.eval, Act.put]) HR.out (by omega) (by omega) ?_; intro A1 c1 w1 r2 hrow hnext hgrow; have HROW := Lib.hid hrow; have HNEXT := Lib.hid hnext; have HGROW := Lib.hid hgrow; clear hrow hnext hgrow; have d1 := (Keep.pair HV.out HB.out HGROW.out).1; have d2 := (Keep.pair HV.out HB.out HGROW.out).2)
  all_goals
    go_wp2
    go_ret
    have hb2 := NetAt.laid (by decide) HV.out HB.out HROW.out (Chg.boxed HGROW.out)
    rw [show (l ++ [(⟨pf, pt, pb⟩ : Pk)]).length = l.length + 1 from by simp] at hb2
    exact ⟨rfl, r2, hb2.1, HNEXT.out.boxed, hb2.2.kept⟩
end Go.Proofs.Ytjlkflbkejpcaaa

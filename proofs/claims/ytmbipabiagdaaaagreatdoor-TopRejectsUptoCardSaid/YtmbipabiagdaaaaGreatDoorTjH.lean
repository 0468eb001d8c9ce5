/- TopRejects: note.good. -/
import Derived.Test.YtmbipabiagdaaaaGreatDoorTjG
import Derived.Test.YtmbipabiagdaaaaGreatDoorSR2
namespace Go.Proofs.YtmbipabiagdaaaaGreatDoor
open Go.RowKit Go.Lib Go.Shelf
/-- A signature. -/
structure Sg where
  i : ByteArray
  t : ByteArray
def Sg.enc (s : Sg) : List Value := [.string s.i, .string s.t]
theorem Sg.len (s : Sg) : s.enc.length = 2 := rfl
theorem Sg.one (s : Sg) : ∀ u ∈ s.enc, u.oneCell' = true := by
  intro u hu
  simp only [Sg.enc, List.mem_cons, List.mem_nil_iff, or_false] at hu
  rcases hu with rfl | rfl <;> rfl
abbrev SgRow (w : World) (v : Value) (r : Option Nat) (l : List Sg) : Prop := SRow 70 2 Sg.enc w v r l
def badS (s : Sg) : Bool := (!((s.i.size : Int) == 32) || s.t.toList.isEmpty) || decide ((1024 : Int) < (s.t.size : Int))
theorem bad_calls (w : World) (i t : ByteArray) : Calls Tryz.prog 58 #[.agg #[.string i, .string t]] w fun e w' => e = .returned (.bool (badS ⟨i, t⟩)) ∧ Chg (fun _ => False) w w' := by
  unfold badS
  by_cases d0 : (i.size : Int) = 32
  · by_cases d1 : t.toList = []
    all_goals
      go_enter Tryz.func58, Tryz.ntmps58
      go_wp2
      go_ret
      exact ⟨by simp [d0, d1], (Chg.refl _ w).alloc _⟩
  · go_enter Tryz.func58, Tryz.ntmps58
    go_wp2
    go_ret
    exact ⟨by simp [d0], (Chg.refl _ w).alloc _⟩
theorem any_take {α : Type} (p : α → Bool) (l : List α) (k : Nat) (x : α) (h : l[k]? = some x) : (l.take (k + 1)).any p = ((l.take k).any p || p x) := by
  obtain ⟨hk, hx⟩ := List.getElem?_eq_some_iff.1 h
  rw [List.take_succ_eq_append_getElem hk, List.any_append, hx]
  simp
theorem any_part {α : Type} (p : α → Bool) (l : List α) (k : Nat) (x : α) (h : l[k]? = some x) (hp : p x = true) : l.any p = true := by
  rw [List.any_eq_true]
  exact ⟨x, List.mem_iff_getElem?.2 ⟨k, h⟩, hp⟩
set_option maxHeartbeats 1000000 in
theorem idxS_calls (w : World) (A : Option Addr) (c : Nat) (r : Option Nat) (l : List Sg) (h : SgRow w (.slice A l.length c) r l) (hl : l.length ≤ 1048576) :
    Calls Tryz.prog 107 #[.slice A l.length c, .func (.func 58) #[] #[]] w fun e w' => ∃ i : Int, e = .returned (.int .i64 i) ∧ decide (0 ≤ i) = l.any badS ∧ Chg (fun _ => False) w w' := by
  have HR := Lib.hid h
  clear h
  go_enter Tryz.func107, Tryz.ntmps107
  go_wp2_with fail
  go_loopw [8] (fun v wx => ∃ k : Nat, k ≤ l.length ∧ v = .int .i64 k ∧ HD ((l.take k).any badS = false) ∧ HD (Chg (fun _ => False) w wx)) (fun v _ => l.length - (intOf v).toNat)
  case atStart => exact ⟨0, Nat.zero_le _, rfl, ⟨rfl⟩, ⟨Chg.refl _ _⟩⟩
  case round =>
    obtain ⟨k, hk, rfl, HA, HG⟩ := hrel
    obtain ⟨w2, rfl⟩ : ∃ w2, w2 = wr := ⟨_, rfl⟩
    by_cases hlt : k < l.length
    · obtain ⟨⟨si, st⟩, hx⟩ : ∃ x, l[k]? = some x := ⟨_, List.getElem?_eq_getElem hlt⟩
      have hr2 := SRow.chg HR.out HG.out (fun _ _ h => h)
      obtain ⟨g, cur, rfl, _⟩ := hr2.at_ (by omega)
      obtain ⟨e0, _⟩ := hr2.cell Sg.len k 0 ⟨si, st⟩ hx (by omega) (.string si) rfl
      obtain ⟨e1, _⟩ := hr2.cell Sg.len k 1 ⟨si, st⟩ hx (by omega) (.string st) rfl
      have HST := Lib.hid (any_take badS l k _ hx)
      have HPP := Lib.hid (any_part badS l k _ hx)
      have C := Lib.hid (fun w => bad_calls w si st)
      obtain ⟨q, hq⟩ : ∃ q, badS ⟨si, st⟩ = q := ⟨_, rfl⟩
      rw [hq] at C HST HPP
      rw [Nat.add_zero] at e0
      have q0 : (0 : Int) ≤ (k : Int) := by omega
      have q1 : (k : Int) < (l.length : Int) := by omega
      clear hq hx hr2
      cases q
      · go_wp2_with (go_at_call 58; refine (C.out _).mono ?_; rintro e w3 ⟨rfl, hc⟩; have G := Lib.hid (HG.out.trans hc (fun _ h => h.elim)); clear hc)
        exact ⟨⟨k + 1, by omega, by go_num, ⟨by rw [HST.out, HA.out]; rfl⟩, ⟨G.out⟩⟩, by simp [intOf]; omega⟩
      · go_wp2_with (go_at_call 58; refine (C.out _).mono ?_; rintro e w3 ⟨rfl, hc⟩; have G := Lib.hid (HG.out.trans hc (fun _ h => h.elim)); clear hc)
        go_ret
        have hp := HPP.out (by trivial)
        exact ⟨_, rfl, by rw [hp]; simp, G.out⟩
    · obtain rfl : k = l.length := by omega
      go_wp2_with fail
      go_ret
      have ha := HA.out
      rw [List.take_length] at ha
      exact ⟨_, rfl, by rw [ha]; rfl, HG.out⟩
theorem conS_calls (w : World) (A : Option Addr) (c : Nat) (r : Option Nat) (l : List Sg) (h : SgRow w (.slice A l.length c) r l) (hl : l.length ≤ 1048576) :
    Calls Tryz.prog 57 #[.slice A l.length c, .func (.func 58) #[] #[]] w fun e w' => e = .returned (.bool (l.any badS)) ∧ Chg (fun _ => False) w w' := by
  have C := Lib.hid (idxS_calls w A c r l h hl)
  clear h
  go_enter Tryz.func57, Tryz.ntmps57
  go_wp2_with (go_at_call 107; refine (C.out).mono ?_; rintro e w1 ⟨i, rfl, hi, hc⟩; have HI := Lib.hid hi; have G := Lib.hid hc; clear hi hc)
  go_ret
  exact ⟨by rw [← HI.out]; rfl, G.out⟩
def nl1 : List UInt8 := [10]
def nl2 : List UInt8 := [10, 10]
def goodN (t : ByteArray) (l : List Sg) : Bool := !(((decide ((16 : Int) < (l.length : Int)) || !Lib.hasSuffix t.data.toList [10]) || Lib.hasPrefix t.data.toList [10]) || Lib.contains t.data.toList [10, 10]) && !(l.any badS)
set_option maxRecDepth 100000 in
set_option maxHeartbeats 2000000 in
theorem good_calls (w : World) (hg : Glob w) (t : ByteArray) (ht : t.size ≤ 4000000) (A : Option Addr) (c : Nat) (r : Option Nat) (l : List Sg) (h : SgRow w (.slice A l.length c) r l) :
    Calls Tryz.prog 21 #[.agg #[.string t, .slice A l.length c]] w fun e w' => e = .returned (.bool (goodN t l)) ∧ Chg (fun _ => False) w w' := by
  obtain ⟨m, hm⟩ := hg.most
  have hm2 := cellChg hm ((Chg.refl (fun _ => False) w).alloc (.cells #[.string t, .slice A l.length c] 29)) (fun h => h)
  have C1 := Lib.hid (fun w => Tryz.strings_HasSuffix t ⟨#[10]⟩ w (by omega))
  have C2 := Lib.hid (fun w => Tryz.strings_HasPrefix t ⟨#[10]⟩ w)
  have C3 := Lib.hid (Tryz.strings_Contains t ⟨#[10, 10]⟩ m _ (by omega) hm2)
  have C4 := Lib.hid (fun (hl : l.length ≤ 16) => conS_calls (w.alloc (.cells #[.string t, .slice A l.length c] 29)) A c r l (SRow.alloc h _) (by omega))
  unfold goodN
  obtain ⟨q1, hq1⟩ : ∃ q, Lib.hasSuffix t.data.toList [10] = q := ⟨_, rfl⟩
  obtain ⟨q2, hq2⟩ : ∃ q, Lib.hasPrefix t.data.toList [10] = q := ⟨_, rfl⟩
  obtain ⟨q3, hq3⟩ : ∃ q, Lib.contains t.data.toList [10, 10] = q := ⟨_, rfl⟩
  obtain ⟨q4, hq4⟩ : ∃ q, l.any badS = q := ⟨_, rfl⟩
  rw [hq4] at C4
  simp only [hq1, hq2, hq3, hq4] at C1 C2 C3 ⊢
  clear hq1 hq2 hq3 hq4 hm hm2 hg h
  have arm : True := trivial
  by_cases h16 : (16 : Int) < (l.length : Int)
  · go_enter Tryz.func21, Tryz.ntmps21
    go_wp2_with fail
    go_ret
    exact ⟨by simp [h16], (Chg.refl _ w).alloc _⟩
  · have d0 : decide ((16 : Int) < (l.length : Int)) = false := decide_eq_false h16
    have h16' : l.length ≤ 16 := by omega
    cases q1
    · go_enter Tryz.func21, Tryz.ntmps21
      go_wp2_with (go_at_call 54; refine (C1.out _).mono ?_; rintro e w1 ⟨rfl, he⟩; obtain rfl := he)
      go_ret
      exact ⟨by simp, (Chg.refl _ w).alloc _⟩
    · cases q2
      · cases q3
        · go_enter Tryz.func21, Tryz.ntmps21
          go_wp2_with (first
            | (go_at_call 54; refine (C1.out _).mono ?_; rintro e w1 ⟨rfl, he⟩; obtain rfl := he)
            | (go_at_call 55; refine (C2.out _).mono ?_; rintro e w1 ⟨rfl, he⟩; obtain rfl := he)
            | (go_at_call 56; refine (C3.out).mono ?_; rintro e w1 ⟨rfl, he⟩; obtain rfl := he)
            | (go_at_call 57; refine (C4.out h16').mono ?_; rintro e w1 ⟨rfl, hc⟩; have G := Lib.hid (((Chg.refl (fun _ => False) w).alloc _).trans hc (fun _ h => h.elim)); clear hc))
          go_ret
          exact ⟨by simp [d0], G.out⟩
        · go_enter Tryz.func21, Tryz.ntmps21
          go_wp2_with (first
            | (go_at_call 54; refine (C1.out _).mono ?_; rintro e w1 ⟨rfl, he⟩; obtain rfl := he)
            | (go_at_call 55; refine (C2.out _).mono ?_; rintro e w1 ⟨rfl, he⟩; obtain rfl := he)
            | (go_at_call 56; refine (C3.out).mono ?_; rintro e w1 ⟨rfl, he⟩; obtain rfl := he))
          go_ret
          exact ⟨by simp, (Chg.refl _ w).alloc _⟩
      · go_enter Tryz.func21, Tryz.ntmps21
        go_wp2_with (first
          | (go_at_call 54; refine (C1.out _).mono ?_; rintro e w1 ⟨rfl, he⟩; obtain rfl := he)
          | (go_at_call 55; refine (C2.out _).mono ?_; rintro e w1 ⟨rfl, he⟩; obtain rfl := he))
        go_ret
        exact ⟨by simp, (Chg.refl _ w).alloc _⟩
end Go.Proofs.YtmbipabiagdaaaaGreatDoor

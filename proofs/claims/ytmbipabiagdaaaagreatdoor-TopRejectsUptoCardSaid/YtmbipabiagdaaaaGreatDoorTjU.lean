/- TopRejects: bill: part, count, what is asked of the chunks. -/
import Derived.Test.YtmbipabiagdaaaaGreatDoorTjR
import Derived.Test.YtmbipabiagdaaaaGreatDoorTjH
namespace Go.Proofs.YtmbipabiagdaaaaGreatDoor
open Go.RowKit Go.Lib Go.Shelf
def partN (n : Int) : Bool := (decide (64 ≤ n) && decide (n ≤ 1024)) && (bits .and .i64 n (n - 1) == 0)
theorem part_calls (w : World) (n : Int) : Calls Tryz.prog 66 #[.int .i64 n] w fun e w' => e = .returned (.bool (partN n)) ∧ w' = w := by
  unfold partN
  by_cases d0 : 64 ≤ n
  · by_cases d1 : n ≤ 1024
    · have hw : IntKind.i64.wrap (n - 1) = n - 1 := by rw [IntKind.wrap_i64]; omega
      have e0 : decide (64 ≤ n) = true := decide_eq_true d0
      have e1 : decide (n ≤ 1024) = true := decide_eq_true d1
      go_enter Tryz.func66, Tryz.ntmps66
      go_wp2
      go_ret
      exact ⟨by simp [d0, d1], rfl⟩
    · have e1 : decide (n ≤ 1024) = false := decide_eq_false d1
      have e0 : decide (64 ≤ n) = true := decide_eq_true d0
      go_enter Tryz.func66, Tryz.ntmps66
      go_wp2
      go_ret
      exact ⟨by simp [d1], rfl⟩
  · have e0 : decide (64 ≤ n) = false := decide_eq_false d0
    go_enter Tryz.func66, Tryz.ntmps66
    go_wp2
    go_ret
    exact ⟨by simp [d0], rfl⟩
theorem partN_range {n : Int} (h : partN n = true) : 64 ≤ n ∧ n ≤ 1024 := by
  simp only [partN, Bool.and_eq_true, decide_eq_true_eq] at h
  exact h.1
def cntF (s c : Int) : Int := (s + c - 1) / c
theorem count_calls (w : World) (s c : Int) (h0 : 0 ≤ s) (h1 : s ≤ 1000000) (h2 : 1 ≤ c) (h3 : c ≤ 1000000) : Calls Tryz.prog 34 #[.int .i64 s, .int .i64 c] w fun e w' => e = .returned (.int .i64 (cntF s c)) ∧ w' = w := by
  unfold cntF
  have w1 : IntKind.i64.wrap (s + c) = s + c := by rw [IntKind.wrap_i64]; omega
  have w2 : IntKind.i64.wrap (s + c - 1) = s + c - 1 := by rw [IntKind.wrap_i64]; omega
  have n0 : ¬ c = 0 := by omega
  have n1 : ¬ c = -1 := by omega
  have ht : (s + c - 1).tdiv c = (s + c - 1) / c := Int.tdiv_eq_ediv_of_nonneg (by omega)
  have hlo : 0 ≤ (s + c - 1) / c := Int.ediv_nonneg (by omega) (by omega)
  have hhi : (s + c - 1) / c ≤ s + c - 1 := Int.ediv_le_self _ (by omega)
  have w3 : IntKind.i64.wrap ((s + c - 1) / c) = (s + c - 1) / c := by rw [IntKind.wrap_i64]; omega
  go_enter Tryz.func34, Tryz.ntmps34
  go_wp2
  go_ret
  exact ⟨rfl, rfl⟩
def badC (s : ByteArray) : Bool := !((s.size : Int) == 32)
theorem badC_calls (w : World) (s : ByteArray) : Calls Tryz.prog 69 #[.string s] w fun e w' => e = .returned (.bool (badC s)) ∧ w' = w := by
  unfold badC
  go_enter Tryz.func69, Tryz.ntmps69
  go_wp2
  go_ret
  exact ⟨rfl, rfl⟩
set_option maxHeartbeats 1000000 in
theorem idxC_calls (w : World) (A : Option Addr) (c : Nat) (r : Option Nat) (l : List ByteArray) (h : TRow w (.slice A l.length c) r l) (hl : l.length ≤ 1048576) :
    Calls Tryz.prog 115 #[.slice A l.length c, .func (.func 69) #[] #[]] w fun e w' => ∃ i : Int, e = .returned (.int .i64 i) ∧ decide (0 ≤ i) = l.any badC ∧ Chg (fun _ => False) w w' := by
  have HR := Lib.hid h
  clear h
  go_enter Tryz.func115, Tryz.ntmps115
  go_wp2_with fail
  go_loopw [8] (fun v wx => ∃ k : Nat, k ≤ l.length ∧ v = .int .i64 k ∧ HD ((l.take k).any badC = false) ∧ HD (Chg (fun _ => False) w wx)) (fun v _ => l.length - (intOf v).toNat)
  case atStart => exact ⟨0, Nat.zero_le _, rfl, ⟨rfl⟩, ⟨Chg.refl _ _⟩⟩
  case round =>
    obtain ⟨k, hk, rfl, HA, HG⟩ := hrel
    obtain ⟨w2, rfl⟩ : ∃ w2, w2 = wr := ⟨_, rfl⟩
    by_cases hlt : k < l.length
    · obtain ⟨x, hx⟩ : ∃ x, l[k]? = some x := ⟨_, List.getElem?_eq_getElem hlt⟩
      have hr2 : TRow w2 (.slice A l.length c) r l := SRow.chg HR.out HG.out (fun _ _ h => h)
      obtain ⟨g, cur, rfl, h9⟩ := hr2.at_ (by omega)
      have e0 := hr2.cell k x hx
      have HST := Lib.hid (any_take badC l k _ hx)
      have HPP := Lib.hid (any_part badC l k _ hx)
      have C := Lib.hid (fun w => badC_calls w x)
      obtain ⟨q, hq⟩ : ∃ q, badC x = q := ⟨_, rfl⟩
      rw [hq] at C HST HPP
      have q0 : (0 : Int) ≤ (k : Int) := by omega
      have q1 : (k : Int) < (l.length : Int) := by omega
      clear hq hx hr2 h9
      cases q
      · go_wp2_with (go_at_call 69; refine (C.out _).mono ?_; rintro e w3 ⟨rfl, he⟩; obtain rfl := he)
        exact ⟨⟨k + 1, by omega, by go_num, ⟨by rw [HST.out, HA.out]; rfl⟩, ⟨HG.out⟩⟩, by simp [intOf]; omega⟩
      · go_wp2_with (go_at_call 69; refine (C.out _).mono ?_; rintro e w3 ⟨rfl, he⟩; obtain rfl := he)
        go_ret
        have hp := HPP.out (by trivial)
        exact ⟨_, rfl, by rw [hp]; simp, HG.out⟩
    · obtain rfl : k = l.length := by omega
      go_wp2_with fail
      go_ret
      have ha := HA.out
      rw [List.take_length] at ha
      exact ⟨_, rfl, by rw [ha]; rfl, HG.out⟩
theorem conC_calls (w : World) (A : Option Addr) (c : Nat) (r : Option Nat) (l : List ByteArray) (h : TRow w (.slice A l.length c) r l) (hl : l.length ≤ 1048576) :
    Calls Tryz.prog 68 #[.slice A l.length c, .func (.func 69) #[] #[]] w fun e w' => e = .returned (.bool (l.any badC)) ∧ Chg (fun _ => False) w w' := by
  have C := Lib.hid (idxC_calls w A c r l h hl)
  clear h
  go_enter Tryz.func68, Tryz.ntmps68
  go_wp2_with (go_at_call 115; refine (C.out).mono ?_; rintro e w1 ⟨i, rfl, hi, hc⟩; have HI := Lib.hid hi; have G := Lib.hid hc; clear hi hc)
  go_ret
  exact ⟨by rw [← HI.out]; rfl, G.out⟩
end Go.Proofs.YtmbipabiagdaaaaGreatDoor

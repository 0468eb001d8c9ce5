/- Keys: the walk of KeysBack. -/
import Derived.Test.YtpdgkgdaaapngaaKyQ
namespace Go.Proofs.Ytpdgkgdaaapngaa
open Go.RowKit
set_option maxRecDepth 100000 in
set_option maxHeartbeats 4000000 in
theorem KeysBack_walk (seed : ByteArray) (height : Int) (A : Option Addr) (l : List ByteArray) (cap : Nat) (w : World) (hs : seed.size ≤ 140737488351232) (hh : 0 ≤ height ∧ height ≤ 255) (hl : StrsIn w A l) (hc : l.length ≤ cap) (hls : ∀ s ∈ l, s.size ≤ 140737488351232) :
    Calls Try.prog 5 #[.string seed, .int .u8 height, .slice A l.length cap] w fun e w' => e = .returned (.bool true) ∧ Chg (fun _ => False) w w' := by
  obtain ⟨h0, h1⟩ := hh
  obtain ⟨H, hH⟩ : ∃ H : Nat, height % 4 = (H : Int) := ⟨(height % 4).toNat, by omega⟩
  have hH3 : H ≤ 3 := by omega
  obtain ⟨P, hP⟩ : ∃ P : Nat, 2 ^ H = P := ⟨_, rfl⟩
  have hP2 := two_pow_small H (by omega)
  rw [hP] at hP2
  obtain ⟨p1, p0⟩ := hP2
  have hw := wrap_pow H P hP p1
  have HPP : Hid ((2 : Int) ^ H = (P : Int)) := Lib.hid (by rw [← hP]; simp)
  have HP := Lib.hid hP
  obtain ⟨m, hm⟩ : ∃ m : Nat, min (l.length : Int) 10 = (m : Int) := ⟨min l.length 10, by omega⟩
  have hm1 : m ≤ l.length := by omega
  have hm10 : m ≤ 10 := by omega
  have hH0 : (0 : Int) ≤ (H : Int) := by omega
  have hH4 : (H : Int) ≤ 4 := by omega
  have hl9 := hl.1
  have C1 := Lib.hid (fun w => New_calls w seed H (by omega))
  have HL := Lib.hid hl
  have HLS := Lib.hid hls
  clear hl hP hls
  go_enter Try.func5, Try.ntmps5
  go_wp2_with (first
    | (go_at_call 9; refine (signs_calls _).mono ?_; rintro e w0 ⟨rfl, hg⟩; have G0 := Lib.hid hg; clear hg)
    | (go_at_call 17; refine (C1.out _).mono ?_; rintro e w1 ⟨b, rfl, hk1, hb1, hg1⟩; have HK1 := Lib.hid hk1; have HBB := Lib.hid (Nat.le_trans G0.out.size hb1); have G1 := Lib.hid (G0.out.trans hg1 (fun _ h => h.elim)); clear hk1 hb1 hg1))
  rw [hH]
  clear hH
  go_loopw [41] (fun k wx => ∃ i : Nat, i ≤ m ∧ k = .int .i64 i ∧ HD (KKey wx b seed H (min i P : Nat)) ∧ HD (Chg (fun _ => False) w wx)) (fun k _ => m - (intOf k).toNat)
  case atStart => exact ⟨0, by omega, rfl, ⟨by rw [Nat.zero_min]; exact HK1.out⟩, ⟨G1.out⟩⟩
  case round =>
    obtain ⟨i, hi, rfl, HK, HG⟩ := hrel
    obtain ⟨w2, rfl⟩ : ∃ w2, w2 = wr := ⟨_, rfl⟩
    by_cases hlt : i < m
    · obtain ⟨a, rfl, hcell⟩ := (HL.out.chg HG.out).get i (by omega)
      obtain ⟨t, ht⟩ : ∃ t, l[i] = t := ⟨_, rfl⟩
      have hts : t.size ≤ 140737488351232 := by rw [← ht]; exact HLS.out _ (List.getElem_mem _)
      rw [ht] at hcell
      clear ht
      have q0 : (0 : Int) ≤ (i : Int) := by omega
      have q1 : (i : Int) < (m : Int) := by omega
      by_cases hip : i < P
      · have hmin : min i P = i := by omega
        have hmin2 : min (i + 1) P = i + 1 := by omega
        have hk := HK.out
        rw [hmin] at hk
        have hip2 : i < 2 ^ H := by rw [HP.out]; exact hip
        obtain ⟨hok, hN⟩ := sig_ok seed t H i (by omega) hip2
        have hE : numE (sigK seed H i t) = 0 := if_pos hok
        have hv := sig_verified seed t H i (by omega) hip2
        have hz := (sig_parts seed t H i (by omega) hip2).1
        have C3 := Lib.hid (Sign1_calls w2 b seed t H i hs hts (by omega) hip2 hk)
        have C4 := Lib.hid (fun w hs => Number_calls w (sigK seed H i t) hs)
        have C5 := Lib.hid (fun w hk => ID_calls w b seed H ((i + 1 : Nat) : Int) hs (by omega) hk)
        have C6 := Lib.hid (fun w hs => Verify_calls w (keyId seed H) t (sigK seed H i t) hts hs)
        have C7 := Lib.hid (fun w hk => Used_calls w b seed H ((i + 1 : Nat) : Int) (by omega) (by omega) hk)
        obtain ⟨s, hss⟩ : ∃ s, sigK seed H i t = s := ⟨_, rfl⟩
        obtain ⟨I, hI⟩ : ∃ I, keyId seed H = I := ⟨_, rfl⟩
        rw [hss] at hN hE hv hz C3 C4 C6
        rw [hI] at hv C5 C6
        rw [hN, hE] at C4
        rw [hv] at C6
        have hsl : s.size ≤ 140737488355328 := by omega
        have C4' := Lib.hid (fun w => C4.out w hsl)
        have C6' := Lib.hid (fun w => C6.out w hsl)
        have HM2 := Lib.hid hmin2
        clear hmin hmin2 hk hip2 hok hN hE hv hz hss hI C4 C6 HK
        go_wp2_with (first
          | (go_at_call 18; refine (C3.out).mono ?_; rintro e w3 ⟨rfl, hk3, hg3⟩; have HK3 := Lib.hid hk3; have HG3 := Lib.hid (HG.out.trans hg3 (fun k hk => .inr (by rw [hk]; exact HBB.out))); clear hk3 hg3)
          | (go_at_call 10; refine (C4'.out _).mono ?_; rintro e w4 ⟨rfl, hg4⟩; have HK4 := Lib.hid (HK3.out.chg hg4 (fun h => h) (Other.none _ _) (Other.none _ _)); have HG4 := Lib.hid (HG3.out.trans hg4 (fun _ h => h.elim)); clear hg4)
          | (go_at_call 20; refine (C7.out _ HK4.out).mono ?_; rintro e w7 ⟨rfl, he7⟩; obtain rfl := he7)
          | (go_at_call 21; refine (C5.out _ HK4.out).mono ?_; rintro e w5 ⟨rfl, hk5, hg5⟩; have HK5 := Lib.hid hk5; have HG5 := Lib.hid (HG4.out.trans hg5 (fun k hk => .inr (by rw [hk]; exact HBB.out))); clear hk5 hg5)
          | (go_at_call 12; refine (C6'.out _).mono ?_; rintro e w6 ⟨rfl, hg6⟩; have HK6 := Lib.hid (HK5.out.chg hg6 (fun h => h) (Other.none _ _) (Other.none _ _)); have HG6 := Lib.hid (HG5.out.trans hg6 (fun _ h => h.elim)); clear hg6))
        exact ⟨⟨i + 1, by omega, by go_num, ⟨by rw [HM2.out]; exact HK6.out⟩, ⟨HG6.out⟩⟩, by simp [intOf]; omega⟩
      · have hmin : min i P = P := by omega
        have hmin2 : min (i + 1) P = P := by omega
        have hk := HK.out
        rw [hmin] at hk
        have C3 := Lib.hid (Sign1_spent w2 b seed t H P (by omega) HP.out.symm hk)
        have C4 := Lib.hid (Left_calls w2 b seed H P (by omega) (by omega) (by omega) hk)
        rw [HPP.out, Int.sub_self] at C4
        have HM2 := Lib.hid hmin2
        have HK3 := Lib.hid hk
        clear hmin hmin2 hk HK
        have hnil : nilS = ⟨#[]⟩ := rfl
        rw [hnil] at C3
        clear hnil
        go_wp2_with (first
          | (go_at_call 18; refine (C3.out).mono ?_; rintro e w3 ⟨rfl, he3⟩; obtain rfl := he3)
          | (go_at_call 19; refine (C4.out).mono ?_; rintro e w4 ⟨rfl, he4⟩; obtain rfl := he4))
        exact ⟨⟨i + 1, by omega, by go_num, ⟨by rw [HM2.out]; exact HK3.out⟩, ⟨HG.out⟩⟩, by simp [intOf]; omega⟩
    · obtain rfl : i = m := by omega
      go_wp2_with fail
      go_ret
      exact ⟨rfl, HG.out⟩
end Go.Proofs.Ytpdgkgdaaapngaa

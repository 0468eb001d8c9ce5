/- Keys: the walk of KeysPlays. -/
import Derived.Test.YtpdgkgdaaapngaaKyQ
import Derived.Test.YtpdgkgdaaapngaaOpQ
namespace Go.Proofs.Ytpdgkgdaaapngaa
open Go.RowKit
theorem KKey.blk {w : World} {b : Nat} {seed : ByteArray} {h : Nat} {used : Int} (k : KKey w b seed h used) : ∃ cs, w.heap[b]? = some (.cells cs 83 (0, 0)) := by
  obtain ⟨_, _, _, hb, _⟩ := k
  exact ⟨_, hb⟩
theorem RKey.blk {w : World} {b : Nat} {seed : ByteArray} {h : Nat} {used : Int} (k : RKey w b seed h used) : ∃ cs, w.heap[b]? = some (.cells cs 52 (0, 0)) := by
  obtain ⟨_, _, hb, _⟩ := k
  exact ⟨_, hb⟩
theorem RKey.cells {w : World} {b : Nat} {seed : ByteArray} {h : Nat} {used : Int} (k : RKey w b seed h used) : w.cell? ⟨b, 3, none⟩ = some (.int .i64 used) := by
  obtain ⟨_, _, hb, _⟩ := k
  exact blkCell hb 3
theorem RKey.past {w w1 : World} {b b2 : Nat} {seed : ByteArray} {h : Nat} {u u2 : Int} (k2 : RKey w b2 seed h u2) (k : KKey w b seed h u) (c : Chg (fun k => k = b) w w1) : RKey w1 b2 seed h u2 := by
  obtain ⟨cs, hb⟩ := k.blk
  obtain ⟨cs2, hb2⟩ := k2.blk
  exact k2.chg c (blkNe hb2 hb (by decide)) (Other.one hb (by decide)) (Other.one hb (by decide))
theorem KKey.past {w w1 : World} {b b2 : Nat} {seed : ByteArray} {h : Nat} {u u2 : Int} (k : KKey w b seed h u) (k2 : RKey w b2 seed h u2) (c : Chg (fun k => k = b2) w w1) : KKey w1 b seed h u := by
  obtain ⟨cs, hb⟩ := k.blk
  obtain ⟨cs2, hb2⟩ := k2.blk
  exact k.chg c (blkNe hb hb2 (by decide)) (Other.one hb2 (by decide)) (Other.one hb2 (by decide))
theorem KKey.free {w w1 : World} {b : Nat} {seed : ByteArray} {h : Nat} {u : Int} (k : KKey w b seed h u) (c : Chg (fun _ => False) w w1) : KKey w1 b seed h u := k.chg c (fun h => h) (Other.none _ _) (Other.none _ _)
theorem RKey.free {w w1 : World} {b : Nat} {seed : ByteArray} {h : Nat} {u : Int} (k : RKey w b seed h u) (c : Chg (fun _ => False) w w1) : RKey w1 b seed h u := k.chg c (fun h => h) (Other.none _ _) (Other.none _ _)
set_option maxRecDepth 100000 in
set_option maxHeartbeats 4000000 in
theorem KeysPlays_bad (seed : ByteArray) (height : Int) (A : Option Addr) (l : List OpV) (cap : Nat) (w : World) (hh : height < 0 ∨ 4 < height) :
    Calls Try.prog 6 #[.string seed, .int .i64 height, .slice A l.length cap] w fun e w' => e = .returned (.bool true) ∧ Chg (fun _ => False) w w' := by
  have C1 := Lib.hid (fun w => New_bad w seed height hh)
  have C2 := Lib.hid (fun w => rNew_bad w seed height hh)
  clear hh
  go_enter Try.func6, Try.ntmps6
  go_wp2_with (first
    | (go_at_call 9; refine (signs_calls _).mono ?_; rintro e w0 ⟨rfl, hg⟩; have G0 := Lib.hid hg; clear hg)
    | (go_at_call 17; refine (C1.out _).mono ?_; rintro e w1 ⟨rfl, he1⟩; obtain rfl := he1)
    | (go_at_call 14; refine (C2.out _).mono ?_; rintro e w1 ⟨rfl, he1⟩; obtain rfl := he1))
  go_ret
  exact ⟨rfl, G0.out⟩
set_option maxRecDepth 100000 in
set_option maxHeartbeats 4000000 in
theorem KeysPlays_good (seed : ByteArray) (H : Nat) (A : Option Addr) (l : List OpV) (cap : Nat) (w : World) (hs : seed.size ≤ 140737488351232) (hh : H ≤ 4) (hl : OpsIn w A l) (hc : l.length ≤ cap) (hls : ∀ o ∈ l, o.s.size ≤ 140737488351232) :
    Calls Try.prog 6 #[.string seed, .int .i64 H, .slice A l.length cap] w fun e w' => e = .returned (.bool true) ∧ Chg (fun _ => False) w w' := by
  obtain ⟨P, hP⟩ : ∃ P : Nat, 2 ^ H = P := ⟨_, rfl⟩
  have hP2 := two_pow_small H hh
  rw [hP] at hP2
  obtain ⟨p1, p0⟩ := hP2
  have HPP : Hid ((2 : Int) ^ H = (P : Int)) := Lib.hid (by rw [← hP]; simp)
  have HP := Lib.hid hP
  obtain ⟨m, hm⟩ : ∃ m : Nat, min (l.length : Int) 20 = (m : Int) := ⟨min l.length 20, by omega⟩
  have hm1 : m ≤ l.length := by omega
  have hm20 : m ≤ 20 := by omega
  have hl9 := hl.1
  have C1 := Lib.hid (fun w => New_calls w seed H hh)
  have C2 := Lib.hid (fun w => rNew_calls w seed H hs hh)
  have HL := Lib.hid hl
  have HLS := Lib.hid hls
  clear hl hP hls
  go_enter Try.func6, Try.ntmps6
  go_wp2_with (first
    | (go_at_call 9; refine (signs_calls _).mono ?_; rintro e w0 ⟨rfl, hg⟩; have G0 := Lib.hid hg; clear hg)
    | (go_at_call 17; refine (C1.out _).mono ?_; rintro e w1 ⟨b, rfl, hk1, hb1, hg1⟩; have HK1 := Lib.hid hk1; have HB1 := Lib.hid (Nat.le_trans G0.out.size hb1); have G1 := Lib.hid (G0.out.trans hg1 (fun _ h => h.elim)); clear hk1 hb1 hg1)
    | (go_at_call 14; refine (C2.out _).mono ?_; rintro e w2 ⟨b2, rfl, hk2, hb2, hg2⟩; have HK2 := Lib.hid (HK1.out.free hg2); have HR2 := Lib.hid hk2; have HB2 := Lib.hid (Nat.le_trans G1.out.size hb2); have G2 := Lib.hid (G1.out.trans hg2 (fun _ h => h.elim)); clear hk2 hb2 hg2))
  go_loopw [54, 11] (fun k la wx => ∃ (i u : Nat) (last : ByteArray), i ≤ m ∧ k = .int .i64 i ∧ la = .string last ∧ HD (last.size ≤ 140737488351232) ∧ HD (u ≤ P) ∧ HD (KKey wx b seed H u ∧ RKey wx b2 seed H u) ∧ HD (Chg (fun _ => False) w wx)) (fun k _ _ => m - (intOf k).toNat)
  case atStart => exact ⟨0, 0, ⟨#[]⟩, by omega, rfl, rfl, ⟨by decide⟩, ⟨Nat.zero_le _⟩, ⟨⟨HK2.out, HR2.out⟩⟩, ⟨G2.out⟩⟩
  case round =>
    obtain ⟨i, u, last, hi, rfl, rfl, HLA, HU, HKR, HG⟩ := hrel
    obtain ⟨w3, rfl⟩ : ∃ w3, w3 = wr := ⟨_, rfl⟩
    by_cases hlt : i < m
    · obtain ⟨a, rfl, ha, hok⟩ := HL.out.get i (by omega)
      have ha2 := OpV.at_chg (o := l[i]'(by omega)) ha HG.out (fun h => h)
      have hts : (l[i]'(by omega)).s.size ≤ 140737488351232 := HLS.out _ (List.getElem_mem _)
      obtain ⟨o, ho⟩ : ∃ o, l[i]'(by omega) = o := ⟨_, rfl⟩
      rw [ho] at ha2 hok hts
      clear ho ha
      obtain ⟨⟨ok, ot, on⟩, ho⟩ : ∃ o', o = o' := ⟨_, rfl⟩
      subst ho
      obtain ⟨c0, c1, c2⟩ := ha2
      obtain ⟨hok1, hok2⟩ := hok
      simp only at c0 c1 c2 hok1 hok2 hts
      have q0 : (0 : Int) ≤ (i : Int) := by omega
      have q1 : (i : Int) < (m : Int) := by omega
      go_upto_block 2 with fail
      obtain ⟨g, hgg⟩ : ∃ g, w3.heap.size = g := ⟨_, rfl⟩
      obtain ⟨W4, hW4⟩ : ∃ W4, w3.alloc (.cells #[.int .u8 ok, .string ot, .int .i64 on] 48) = W4 := ⟨_, rfl⟩
      have hch : Chg (fun _ => False) w3 W4 := by rw [← hW4]; exact (Chg.refl _ w3).alloc _
      have hob : W4.heap[g]? = some (.cells #[.int .u8 ok, .string ot, .int .i64 on] 48 (0, 0)) := by rw [← hW4, ← hgg]; exact blkAlloc w3 _
      simp only [hW4, hgg]
      clear c0 c1 c2 hgg hW4
      go_cut [11] (fun la wx => ∃ (v : Nat) (last : ByteArray), la = .string last ∧ HD (last.size ≤ 140737488351232) ∧ HD (v ≤ P) ∧ HD (KKey wx b seed H v ∧ RKey wx b2 seed H v) ∧ HD (Chg (fun _ => False) w wx))
      case first =>
        have hk4 := HKR.out.1.free hch
        have hr4 := HKR.out.2.free hch
        have HNE : Hid (¬ g = b) := Lib.hid (by obtain ⟨cs, hb⟩ := hk4.blk; exact blkNe hob hb (by decide))
        have HNE2 : Hid (¬ g = b2) := Lib.hid (by obtain ⟨cs, hb⟩ := hr4.blk; exact blkNe hob hb (by decide))
        have G4 := Lib.hid (HG.out.trans hch (fun _ h => h.elim))
        have o0 : W4.cell? ⟨g, 0, none⟩ = some (.int .u8 ok) := blkCell hob 0
        have o1 : W4.cell? ⟨g, 1, none⟩ = some (.string ot) := blkCell hob 1
        have o2 : W4.cell? ⟨g, 2, none⟩ = some (.int .i64 on) := blkCell hob 2
        have HO4 := Lib.hid hob
        have HK4 := Lib.hid hk4
        have HR4 := Lib.hid hr4
        clear hch hob hk4 hr4
        have hUP := HU.out
        by_cases h2 : ok % 4 = 2
        · obtain ⟨v, hv⟩ : ∃ v : Nat, max (u : Int) (min on (P : Int)) = v := ⟨(max (u : Int) (min on (P : Int))).toNat, by omega⟩
          have hvP : v ≤ P := by omega
          have C3 := Lib.hid (fun hk => Skip_calls W4 b seed H u on hh (by omega) (by omega) hk)
          have C4 := Lib.hid (fun w hk => rSkip_calls w b2 seed H u on hh hk)
          rw [HPP.out, hv] at C3 C4
          have hk2 : (ok % 4 == 2) = true := by simp [h2]
          clear hv h2 hUP
          go_wp2_with (first
            | (go_at_call 22; refine (C3.out HK4.out).mono ?_; rintro e w5 ⟨rfl, hk5, hg5⟩; have HR5 := Lib.hid (HR4.out.past HK4.out hg5); have HK5 := Lib.hid hk5; have o5 : w5.cell? ⟨g, 2, none⟩ = some (.int .i64 on) := cellChg o2 hg5 HNE.out; have G5 := Lib.hid hg5; clear hk5 hg5)
            | (go_at_call 23; refine (C4.out _ HR5.out).mono ?_; rintro e w6 ⟨rfl, hr6, hg6⟩; have HK6 := Lib.hid (HK5.out.past HR5.out hg6); have HR6 := Lib.hid hr6; have G6 := Lib.hid hg6; clear hr6 hg6))
          go_meet
          case rel => exact ⟨v, last, rfl, HLA, ⟨hvP⟩, ⟨⟨HK6.out, HR6.out⟩⟩, ⟨(G4.out.trans G5.out (fun k e => .inr (by rw [e]; exact HB1.out))).trans G6.out (fun k e => .inr (by rw [e]; exact HB2.out))⟩⟩
        · by_cases h3 : ok % 4 = 3
          · have hk2 : (ok % 4 == 2) = false := by simp [h2]
            have hk3 : (ok % 4 == 3) = true := by simp [h3]
            obtain ⟨I, hI⟩ : ∃ I, keyId seed H = I := ⟨_, rfl⟩
            obtain ⟨V, hV⟩ : ∃ V, verF I ot last = V := ⟨_, rfl⟩
            have C3 := Lib.hid (fun w (c : Chg (fun _ => False) W4 w) => rID_calls w b2 seed H u hh (HR4.out.free c))
            have C4 := Lib.hid (fun w => Verify_calls w I ot last hts (Nat.le_trans HLA.out (by decide)))
            have C5 := Lib.hid (fun w => rVerify_calls w I ot last hts (Nat.le_trans HLA.out (by decide)))
            rw [hI] at C3
            rw [hV] at C4 C5
            have G := Lib.hid (Chg.refl (fun _ => False) W4)
            clear h2 h3 hUP hI hV
            go_wp2_with fail
            go_region_held3 (fun w' => w'.cell? ⟨g, 1, none⟩ = some (.string ot)) (first | go_keep | exact o1 | exact cellChg o1 G.out (fun h => h)) (first
              | (go_at_call 16; refine (C3.out _ (by first | exact G.out | exact G.out.drew)).mono ?_; rintro e w5 ⟨rfl, hg⟩; have G := Lib.hid (Chg.trans (by first | exact G.out | exact G.out.drew) hg (fun _ h => h.elim)); clear hg)
              | (go_at_call 12; refine (C4.out _).mono ?_; rintro e w5 ⟨rfl, hg⟩; have G := Lib.hid (Chg.trans (by exact G.out) hg (fun _ h => h.elim)); clear hg)
              | (go_at_call 13; refine (C5.out _).mono ?_; rintro e w5 ⟨rfl, hg⟩; have G := Lib.hid (Chg.trans (by exact G.out) hg (fun _ h => h.elim)); clear hg)
              | fail "NOFIT")
            all_goals
              go_wp2_with fail
              go_meet
              case rel => exact ⟨u, last, rfl, HLA, HU, ⟨⟨HK4.out.free G.out, HR4.out.free G.out⟩⟩, ⟨G4.out.trans G.out (fun _ h => h.elim)⟩⟩
          · have hk2 : (ok % 4 == 2) = false := by simp [h2]
            have hk3 : (ok % 4 == 3) = false := by simp [h3]
            by_cases hu : u < P
            · have hu2 : u < 2 ^ H := by rw [HP.out]; exact hu
              have C3 := Lib.hid (fun hk => Sign1_calls W4 b seed ot H u hs hts hh hu2 hk)
              have C4 := Lib.hid (fun w hk => rSign1_calls w b2 seed ot H u hs hts hh hu2 hk)
              have hz := (sig_parts seed ot H u hh hu2).1
              obtain ⟨s, hs⟩ : ∃ s, sigK seed H u ot = s := ⟨_, rfl⟩
              rw [hs] at C3 C4 hz
              have HZ := Lib.hid (show s.size ≤ 140737488351232 by omega)
              have HU1 := Lib.hid (show u + 1 ≤ P by omega)
              clear h2 h3 hUP hs hz hu hu2
              go_wp2_with (first
                | (go_at_call 18; refine (C3.out HK4.out).mono ?_; rintro e w5 ⟨rfl, hk5, hg5⟩; have HR5 := Lib.hid (HR4.out.past HK4.out hg5); have HK5 := Lib.hid hk5; have o5 : w5.cell? ⟨g, 1, none⟩ = some (.string ot) := cellChg o1 hg5 HNE.out; have G5 := Lib.hid hg5; clear hk5 hg5)
                | (go_at_call 24; refine (C4.out _ HR5.out).mono ?_; rintro e w6 ⟨rfl, hr6, hg6⟩; have HK6 := Lib.hid (HK5.out.past HR5.out hg6); have HR6 := Lib.hid hr6; have G6 := Lib.hid hg6; clear hr6 hg6))
              go_meet
              case rel => exact ⟨u + 1, s, rfl, ⟨HZ.out⟩, ⟨HU1.out⟩, ⟨⟨HK6.out, HR6.out⟩⟩, ⟨(G4.out.trans G5.out (fun k e => .inr (by rw [e]; exact HB1.out))).trans G6.out (fun k e => .inr (by rw [e]; exact HB2.out))⟩⟩
            · have hu2 : u = 2 ^ H := by rw [HP.out]; omega
              have C3 := Lib.hid (fun hk => Sign1_spent W4 b seed ot H u hh hu2 hk)
              have C4 := Lib.hid (fun w hk => rSign1_spent w b2 seed ot H u hh hu2 hk)
              rw [show nilS = ⟨#[]⟩ from rfl] at C3 C4
              clear h2 h3 hUP hu hu2
              go_wp2_with (first
                | (go_at_call 18; refine (C3.out HK4.out).mono ?_; rintro e w5 ⟨rfl, he⟩; obtain rfl := he)
                | (go_at_call 24; refine (C4.out _ HR4.out).mono ?_; rintro e w6 ⟨rfl, hg6⟩; have HK6 := Lib.hid (HK4.out.free hg6); have HR6 := Lib.hid (HR4.out.free hg6); have G6 := Lib.hid hg6; clear hg6))
              go_meet
              case rel => exact ⟨u, ⟨#[]⟩, rfl, ⟨by decide⟩, HU, ⟨⟨HK6.out, HR6.out⟩⟩, ⟨G4.out.trans G6.out (fun _ h => h.elim)⟩⟩
      case rest =>
        obtain ⟨v, last2, rfl, HLA2, HU2, HKR2, G7⟩ := hcut
        have C3 := Lib.hid (fun w (c : Chg (fun _ => False) wc w) => Used_calls w b seed H v (by omega) (by have := HU2.out; omega) (HKR2.out.1.free c))
        have C4 := Lib.hid (fun w (c : Chg (fun _ => False) wc w) => Left_calls w b seed H v hh (by omega) (by have := HU2.out; omega) (HKR2.out.1.free c))
        have C5 := Lib.hid (fun w (c : Chg (fun _ => False) wc w) => rLeft_calls w b2 seed H v hh (by omega) (by have := HU2.out; omega) (HKR2.out.2.free c))
        rw [HPP.out] at C4 C5
        have G := Lib.hid (Chg.refl (fun _ => False) wc)
        have r3 := HKR2.out.2.cells
        clear hch hob HLA HU HKR HG
        go_wp2_with fail
        go_region_held3 (fun w' => w'.cell? ⟨b2, 3, none⟩ = some (.int .i64 v)) (first | go_keep | exact r3 | exact (HKR2.out.2.free G.out).cells) (first
          | (go_at_call 20; refine (C3.out _ (by first | exact G.out | exact G.out.drew)).mono ?_; rintro e w5 ⟨rfl, he⟩; obtain rfl := he)
          | (go_at_call 19; refine (C4.out _ (by first | exact G.out | exact G.out.drew)).mono ?_; rintro e w5 ⟨rfl, he⟩; obtain rfl := he)
          | (go_at_call 25; refine (C5.out _ (by first | exact G.out | exact G.out.drew)).mono ?_; rintro e w5 ⟨rfl, hg⟩; have G := Lib.hid (Chg.trans (by first | exact G.out | exact G.out.drew) hg (fun _ h => h.elim)); clear hg)
          | fail "NOFIT")
        all_goals
          go_wp2_with fail
          exact ⟨⟨i + 1, v, last2, by omega, by go_num, rfl, HLA2, HU2, ⟨⟨HKR2.out.1.free G.out, HKR2.out.2.free G.out⟩⟩, ⟨G7.out.trans G.out (fun _ h => h.elim)⟩⟩, by simp [intOf]; omega⟩
    · obtain rfl : i = m := by omega
      have hk7 := HKR.out.1
      have hr7 := HKR.out.2
      obtain ⟨I, hI⟩ : ∃ I, keyId seed H = I := ⟨_, rfl⟩
      have C3 := Lib.hid (fun w hk => ID_calls w b seed H u hs hh hk)
      have C4 := Lib.hid (fun w hk => rID_calls w b2 seed H u hh hk)
      rw [hI] at C3 C4
      have HK := Lib.hid hk7
      have HR := Lib.hid hr7
      have G := Lib.hid HG.out
      clear hI hk7 hr7
      go_wp2_with (first
        | (go_at_call 21; refine (C3.out _ HK.out).mono ?_; rintro e w5 ⟨rfl, hk5, hg5⟩; have HR := Lib.hid (HR.out.past HK.out hg5); have HK := Lib.hid hk5; have G := Lib.hid (G.out.trans hg5 (fun k e => .inr (by rw [e]; exact HB1.out))); clear hk5 hg5)
        | (go_at_call 16; refine (C4.out _ HR.out).mono ?_; rintro e w6 ⟨rfl, hg6⟩; have HK := Lib.hid (HK.out.free hg6); have HR := Lib.hid (HR.out.free hg6); have G := Lib.hid (G.out.trans hg6 (fun _ h => h.elim)); clear hg6))
      go_ret
      exact ⟨rfl, G.out⟩
theorem KeysPlays_walk (seed : ByteArray) (height : Int) (A : Option Addr) (l : List OpV) (cap : Nat) (w : World) (hs : seed.size ≤ 140737488351232) (hl : OpsIn w A l) (hc : l.length ≤ cap) (hls : ∀ o ∈ l, o.s.size ≤ 140737488351232) :
    Calls Try.prog 6 #[.string seed, .int .i64 height, .slice A l.length cap] w fun e w' => e = .returned (.bool true) ∧ Chg (fun _ => False) w w' := by
  by_cases hh : height < 0 ∨ 4 < height
  · exact KeysPlays_bad seed height A l cap w hh
  · obtain ⟨H, rfl⟩ : ∃ H : Nat, height = H := ⟨height.toNat, by omega⟩
    exact KeysPlays_good seed H A l cap w hs (by omega) hl hc hls
end Go.Proofs.Ytpdgkgdaaapngaa

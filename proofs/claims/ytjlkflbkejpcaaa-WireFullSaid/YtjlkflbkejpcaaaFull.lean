/- The walk of WireFull. -/
import Derived.Test.YtjlkflbkejpcaaaBody
namespace Go.Proofs.Ytjlkflbkejpcaaa
open Go.RowKit

theorem StrsIn.chg {w w1 : World} {A : Option Addr} {l : List ByteArray} {S : Nat → Prop} (h : StrsIn w A l) (c : Chg S w w1) (hn : ∀ a, A = some a → ¬ S a.block) : StrsIn w1 A l := by
  refine ⟨h.1, fun h0 => ?_⟩
  obtain ⟨a, ha, hc⟩ := h.2 h0
  exact ⟨a, ha, fun j s hj => cellChg (hc j s hj) c (by rw [show (a.add j).block = a.block from by unfold Addr.add; split <;> rfl]; exact hn a ha)⟩
/-- The i-th packet. -/
def fullP (bs : List ByteArray) (i : Nat) : Pk := ⟨(i : Int) % 64, 63, bodyF bs i⟩
def sent (bs : List ByteArray) (j : Nat) : List Pk := (List.range (min j 64)).map (fullP bs)
def lostn (j : Nat) : Int := ((j - 64 : Nat) : Int)
theorem sent_len (bs : List ByteArray) (j : Nat) : (sent bs j).length = min j 64 := by simp [sent]
theorem full_ok (bs : List ByteArray) (i : Nat) : okP (fullP bs i) ∧ (fullP bs i).b.size ≤ 65536 := by
  have h1 := bodyF_size bs i
  refine ⟨⟨?_, ?_, ?_, ?_⟩, ?_⟩
  · simp only [fullP]; omega
  · simp only [fullP]; omega
  · simp only [fullP]; omega
  · simp only [fullP]; omega
  · simp only [fullP]; omega
theorem send_room (bs : List ByteArray) (j : Nat) (hj : j < 64) : sendF (sent bs j) (lostn j) (fullP bs j) = (0, sent bs (j + 1), lostn (j + 1)) := by
  obtain ⟨h1, h2⟩ := full_ok bs j
  unfold sendF
  rw [if_neg (by simpa using h1), if_neg (by omega), if_neg (by rw [sent_len]; omega)]
  have e1 : min j 64 = j := by omega
  have e2 : min (j + 1) 64 = j + 1 := by omega
  have e3 : j - 64 = 0 := by omega
  have e4 : j + 1 - 64 = 0 := by omega
  simp only [sent, lostn, e1, e2, e3, e4, List.range_succ, List.map_append, List.map_cons, List.map_nil]
theorem send_full (bs : List ByteArray) (j : Nat) (hj : 64 ≤ j) (hm : j ≤ 1000) : sendF (sent bs j) (lostn j) (fullP bs j) = (6, sent bs (j + 1), lostn (j + 1)) := by
  obtain ⟨h1, h2⟩ := full_ok bs j
  unfold sendF
  rw [if_neg (by simpa using h1), if_neg (by omega), if_pos (by rw [sent_len]; omega)]
  have e1 : min j 64 = 64 := by omega
  have e2 : min (j + 1) 64 = 64 := by omega
  have e3 : wrap64 (lostn j + 1) = lostn (j + 1) := by
    rw [show wrap64 (lostn j + 1) = lostn j + 1 from IntWalk.wrap64_in _ (by simp only [lostn]; omega)]
    simp only [lostn]
    omega
  simp only [sent, e1, e2, e3]

theorem quietB {P : Program} {f : FuncId} {args : Array Value} {w : World} {n : Nat} {v : Value}
    (h : Calls P f args (w.drewN n) fun e w' => e = .returned v ∧ ∃ m, w' = (w.drewN n).drewN m) : Calls P f args (w.drewN n) fun e w'' => e = .returned v ∧ ∃ m, w'' = w.drewN m :=
  h.mono fun _ _ ⟨he, m, hm⟩ => ⟨he, n + m, hm.trans (World.drewN_drewN ..)⟩
set_option maxRecDepth 100000 in
set_option maxHeartbeats 4000000 in
theorem WireFull_walk (m : Int) (hm : 0 ≤ m ∧ m ≤ 255) (A : Option Addr) (bs : List ByteArray) (c : Nat) (w : World) (hl : StrsIn w A bs) :
    Calls Try.prog 4 #[.int .u8 m, .slice A bs.length c] w fun e w' => e = .returned (.bool true) ∧ Chg (fun _ => False) w w' := by
  obtain ⟨K, hK, hK1, hK2⟩ : ∃ K : Nat, (K : Int) = 61 + m % 8 ∧ 61 ≤ K ∧ K ≤ 68 := ⟨(61 + m % 8).toNat, by omega, by omega, by omega⟩
  have HX : Hid ((w.alloc (.cells #[.slice A bs.length c] 38)).heap[w.heap.size]? = some (.cells #[.slice A bs.length c] 38 (0, 0))) := Lib.hid (blkAlloc w _)
  have HL := Lib.hid (hl.chg ((Chg.refl (fun _ => False) w).alloc (.cells #[.slice A bs.length c] 38)) (fun _ _ h => h))
  clear hl
  go_enter Try.func4, Try.ntmps4
  go_wp2_with (go_at_call 15; refine (goes_calls _).mono ?_; rintro e w1 ⟨rfl, hg⟩; have HG := Lib.hid hg; clear hg)
  have HM := Lib.hid (NMade.fresh 41 w1 w1.heap.size rfl)
  rw [← hK]
  clear hK hm
  go_loopw [22] (fun v wr => ∃ j : Nat, j ≤ K ∧ v = .int .i64 j ∧ HD (NMade 41 w1 wr w1.heap.size (sent bs j) (lostn j))) (fun v _ => K - (intOf v).toNat)
  case atStart => exact ⟨0, Nat.zero_le _, rfl, ⟨HM.out⟩⟩
  case round =>
    clear HM
    obtain ⟨j, hj, rfl, HN⟩ := hrel
    have hx := HN.out.ch.obj (HG.out.obj HX.out (fun h => h)) (fun h => h)
    have HCB := Lib.hid (blkCell hx 0)
    have HLR := Lib.hid ((HL.out.chg HG.out (fun _ _ h => h)).chg HN.out.ch (fun _ _ h => h))
    clear hx
    by_cases hlt : j < K
    · by_cases h64 : j < 64
      · go_wp2_with (first
          | (go_at_call 16; refine (body_calls wr w.heap.size A bs c HCB.out (by exact HLR.out) j (by omega)).mono ?_; rintro e w2 ⟨rfl, n, rfl⟩)
          | (go_at_call 17; refine (nSend_calls (W := w1) (by exact HN.out.kept ((Chg.refl _ wr).drewN n)) (fullP bs j)).mono ?_; rw [send_room bs j h64]; rintro e w3 ⟨rfl, hm⟩; have HN3 := Lib.hid hm; clear hm))
        exact ⟨⟨j + 1, by omega, by go_num, ⟨HN3.out⟩⟩, by simp [intOf]; omega⟩
      · go_wp2_with (first
          | (go_at_call 16; refine (body_calls wr w.heap.size A bs c HCB.out (by exact HLR.out) j (by omega)).mono ?_; rintro e w2 ⟨rfl, n, rfl⟩)
          | (go_at_call 17; refine (nSend_calls (W := w1) (by exact HN.out.kept ((Chg.refl _ wr).drewN n)) (fullP bs j)).mono ?_; rw [send_full bs j (by omega) (by omega)]; rintro e w3 ⟨rfl, hm⟩; have HN3 := Lib.hid hm; clear hm))
        exact ⟨⟨j + 1, by omega, by go_num, ⟨HN3.out⟩⟩, by simp [intOf]; omega⟩
    · obtain rfl : j = K := by omega
      by_cases h64 : 64 < j
      · have h4 : j = 65 ∨ j = 66 ∨ j = 67 ∨ j = 68 := by omega
        have hle : (sent bs j).length = 64 := by rw [sent_len]; omega
        have hgets : ∀ i, i < 64 → (sent bs j)[i]? = some (fullP bs i) := fun i hi => by
          simp only [sent, List.getElem?_map, List.getElem?_range (show i < min j 64 by omega), Option.map_some]
        have hlo : lostn j = (j : Int) - 64 := by simp only [lostn]; omega
        generalize sent bs j = L at HN hle hgets
        generalize lostn j = lo at HN hlo
        have HGETS := Lib.hid hgets
        clear hj hK1 hK2 hlt h64 hgets
        rcases h4 with rfl | rfl | rfl | rfl
        all_goals
          simp at hlo
          subst hlo
          go_wp2_with (first
            | (go_at_call 18; refine (nCount_calls (W := w1) (by exact HN.out)).mono ?_; rw [hle]; rintro e w2 ⟨rfl, rfl⟩)
            | (go_at_call 19; refine (nLost_calls (W := w1) (by exact HN.out)).mono ?_; rintro e w2 ⟨rfl, rfl⟩))
          have hM : L.length = 64 := hle
          have hX2 := HN.out
          go_loopw [53] (fun v wr2 => ∃ i : Nat, i ≤ 64 ∧ v = .int .i64 i ∧ HD (∃ lo, NMade 41 w1 wr2 w1.heap.size (L.drop i) lo)) (fun v _ => 64 - (intOf v).toNat)
          case atStart => exact ⟨0, Nat.zero_le _, rfl, ⟨_, HN.out⟩⟩
          case round =>
            clear HN HCB HLR hX2
            obtain ⟨i, hi, rfl, ⟨lo, HN⟩⟩ := hrel
            have HN := Lib.hid HN
            have hx := HN.out.ch.obj (HG.out.obj HX.out (fun h => h)) (fun h => h)
            have HCB := Lib.hid (blkCell hx 0)
            have HLR := Lib.hid ((HL.out.chg HG.out (fun _ _ h => h)).chg HN.out.ch (fun _ _ h => h))
            clear hx
            by_cases hlt : i < 64
            · have hget : (L.drop i)[0]? = some (fullP bs i) := by
                rw [List.getElem?_drop, Nat.add_zero]
                exact HGETS.out i hlt
              have hers : (L.drop i).eraseIdx 0 = L.drop (i + 1) := by
                rw [List.eraseIdx_zero, List.tail_drop]
              have hlen : (L.drop i).length ≤ 64 := by
                rw [List.length_drop, hM]
                omega
              go_wp2_with (first
                | (go_at_call 20; refine (nTake_ok (W := w1) (by exact HN.out) 0 _ hget hlen).mono ?_; rw [hers]; rintro e w2 ⟨rfl, hm, _⟩; have HN2 := Lib.hid (hm.alloc (.cells #[.int .i64 ((i : Int) % 64), .int .i64 63, .string (bodyF bs i)] 45)); clear hm; simp only [Pk.val, fullP]; have hx := HN2.out.ch.obj (HG.out.obj HX.out (fun h => h)) (fun h => h); have HCB2 := Lib.hid (blkCell hx 0); have HLR2 := Lib.hid ((HL.out.chg HG.out (fun _ _ h => h)).chg HN2.out.ch (fun _ _ h => h)); clear hx))
              go_quiet ((go_at_call 16; exact quietB (body_calls _ w.heap.size A bs c (by exact HCB2.out) (by exact HLR2.out) i (by omega))))
              go_wp2
              exact ⟨⟨i + 1, by omega, by go_num, ⟨_, HN2.out.kept ((Chg.refl _ _).drewN _)⟩⟩, by simp [intOf]; omega⟩
            · obtain rfl : i = 64 := by omega
              have hz : (L.drop 64).length = 0 := by rw [List.length_drop, hM]
              go_wp2_with (go_at_call 18; refine (nCount_calls (W := w1) (by exact HN.out)).mono ?_; rw [hz]; rintro e w2 ⟨rfl, rfl⟩)
              go_ret
              exact ⟨rfl, HG.out.kept.trans HN.out.ch (fun _ h => h.elim)⟩
      · have hlo : lostn j = 0 := by simp only [lostn]; omega
        have hle : (sent bs j).length = j := by rw [sent_len]; omega
        go_wp2_with (first
          | (go_at_call 18; refine (nCount_calls (W := w1) (by exact HN.out)).mono ?_; rw [hle]; rintro e w2 ⟨rfl, rfl⟩)
          | (go_at_call 19; refine (nLost_calls (W := w1) (by exact HN.out)).mono ?_; rw [hlo]; rintro e w2 ⟨rfl, rfl⟩))
        have hM : (sent bs j).length = j := hle
        have hX2 := HN.out
        go_loopw [53] (fun v wr2 => ∃ i : Nat, i ≤ j ∧ v = .int .i64 i ∧ HD (NMade 41 w1 wr2 w1.heap.size ((sent bs j).drop i) (lostn j))) (fun v _ => j - (intOf v).toNat)
        case atStart => exact ⟨0, Nat.zero_le _, rfl, ⟨HN.out⟩⟩
        case round =>
          clear HN HCB HLR hX2
          obtain ⟨i, hi, rfl, HN⟩ := hrel
          have hx := HN.out.ch.obj (HG.out.obj HX.out (fun h => h)) (fun h => h)
          have HCB := Lib.hid (blkCell hx 0)
          have HLR := Lib.hid ((HL.out.chg HG.out (fun _ _ h => h)).chg HN.out.ch (fun _ _ h => h))
          clear hx
          by_cases hlt : i < j
          · have hget : ((sent bs j).drop i)[0]? = some (fullP bs i) := by
              rw [List.getElem?_drop, Nat.add_zero]
              simp only [sent, List.getElem?_map, List.getElem?_range (show i < min j 64 by omega), Option.map_some]
            have hers : ((sent bs j).drop i).eraseIdx 0 = (sent bs j).drop (i + 1) := by
              rw [List.eraseIdx_zero, List.tail_drop]
            have hlen : ((sent bs j).drop i).length ≤ 64 := by
              rw [List.length_drop, sent_len]
              omega
            go_wp2_with (first
              | (go_at_call 20; refine (nTake_ok (W := w1) (by exact HN.out) 0 _ hget hlen).mono ?_; rw [hers]; rintro e w2 ⟨rfl, hm, _⟩; have HN2 := Lib.hid (hm.alloc (.cells #[.int .i64 ((i : Int) % 64), .int .i64 63, .string (bodyF bs i)] 45)); clear hm; simp only [Pk.val, fullP]; have hx := HN2.out.ch.obj (HG.out.obj HX.out (fun h => h)) (fun h => h); have HCB2 := Lib.hid (blkCell hx 0); have HLR2 := Lib.hid ((HL.out.chg HG.out (fun _ _ h => h)).chg HN2.out.ch (fun _ _ h => h)); clear hx))
            go_quiet ((go_at_call 16; exact quietB (body_calls _ w.heap.size A bs c (by exact HCB2.out) (by exact HLR2.out) i (by omega))))
            go_wp2
            exact ⟨⟨i + 1, by omega, by go_num, ⟨HN2.out.kept ((Chg.refl _ _).drewN _)⟩⟩, by simp [intOf]; omega⟩
          · obtain rfl : i = j := by omega
            have hz : ((sent bs i).drop i).length = 0 := by rw [List.length_drop, hM]; omega
            go_wp2_with (go_at_call 18; refine (nCount_calls (W := w1) (by exact HN.out)).mono ?_; rw [hz]; rintro e w2 ⟨rfl, rfl⟩)
            go_ret
            exact ⟨rfl, HG.out.kept.trans HN.out.ch (fun _ h => h.elim)⟩
end Go.Proofs.Ytjlkflbkejpcaaa

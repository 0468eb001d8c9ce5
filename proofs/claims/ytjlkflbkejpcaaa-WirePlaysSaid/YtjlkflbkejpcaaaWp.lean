/- The walk of WirePlays where there are more than 200 calls. -/
import Derived.Test.YtjlkflbkejpcaaaOpsW
namespace Go.Proofs.Ytjlkflbkejpcaaa
open Go.RowKit

set_option maxRecDepth 100000 in
set_option maxHeartbeats 4000000 in
theorem WirePlays_big (A : Option Addr) (l : List OpW) (c : Nat) (w : World) (hl : CallsIn w A l) (hc : l.length ≤ c) (h5 : 200 < l.length) :
    Calls Try.prog 8 #[.slice A l.length c] w fun e w' => e = .returned (.bool true) ∧ Chg (fun _ => False) w w' := by
  have HL := Lib.hid hl
  clear hl
  go_enter Try.func8, Try.ntmps8
  go_wp2_with (go_at_call 15; refine (goes_calls _).mono ?_; rintro e w1 ⟨rfl, hg⟩; have HG := Lib.hid hg; clear hg)
  have HF : Hid (Nets ((w1.alloc (.cells #[.slice none 0 0, .int .i64 0] 41)).alloc (.cells #[.slice none 0 0, .int .i64 0] 66)) w1.heap.size none (w1.heap.size + 1) none [] 0 [] 0) := Lib.hid (by
    have h1 := NetAt.fresh 41 w1
    have h2 := NetAt.fresh 66 (w1.alloc (.cells #[.slice none 0 0, .int .i64 0] 41))
    rw [show (w1.alloc (.cells #[.slice none 0 0, .int .i64 0] 41)).heap.size = w1.heap.size + 1 from by simp] at h2
    exact ⟨h1.kept ((Chg.refl _ _).alloc _), h2, fun k e => by cases e⟩)
  have hw1 := HG.out.size
  go_loopw [22] (fun v wr => ∃ (k : Nat) (r r2 : Option Nat) (L : List Pk) (lost : Int), k ≤ 200 ∧ v = .int .i64 k ∧ HD (Nets wr w1.heap.size r (w1.heap.size + 1) r2 L lost L lost) ∧ HD (L.length ≤ 64) ∧ HD ((∀ k, r = some k → w.heap.size ≤ k) ∧ (∀ k, r2 = some k → w.heap.size ≤ k)) ∧ HD (Chg (fun _ => False) w wr)) (fun v _ => 200 - (intOf v).toNat)
  case atStart => exact ⟨0, none, none, [], 0, Nat.zero_le _, rfl, ⟨HF.out⟩, ⟨Nat.zero_le _⟩, ⟨⟨fun k e => (by cases e), fun k e => (by cases e)⟩⟩, ⟨(HG.out.alloc _).alloc _⟩⟩
  case round =>
    clear HF
    obtain ⟨k, r, r2, L, lost, hk, rfl, HN, HLEN, HB, GG⟩ := hrel
    by_cases hlt : k < 200
    · obtain ⟨a, rfl, ha, hok⟩ := HL.out.get k (by omega)
      have ha2 := OpW.chg (o := l[k]'(by omega)) ha GG.out (fun h => h)
      obtain ⟨o, ho⟩ : ∃ o, l[k]'(by omega) = o := ⟨_, rfl⟩
      rw [ho] at ha2 hok
      clear ho ha
      obtain ⟨⟨ok, oi, oat, obits, ⟨pf, pt, pb⟩⟩, ho⟩ : ∃ o', o = o' := ⟨_, rfl⟩
      subst ho
      obtain ⟨c0, c1, c2, c3, c4, c5, c6⟩ := ha2
      obtain ⟨hok1, hok2⟩ := hok
      simp only at c0 c1 c2 c3 c4 c5 c6 hok1 hok2
      go_upto_block 2 with fail
      have hdk : decide ((k : Int) < 200) = true := decide_eq_true (by omega)
      rw [hdk]
      clear hdk
      go_cut [9, 10] (fun e f wx => ∃ (er : Int) (r' r2' : Option Nat) (L' : List Pk) (lost' : Int) (q : Pk), e = .int .i64 er ∧ f = .int .i64 er ∧ HD (Nets wx w1.heap.size r' (w1.heap.size + 1) r2' L' lost' L' lost') ∧ HD (L'.length ≤ 64) ∧ HD ((∀ k, r' = some k → w.heap.size ≤ k) ∧ (∀ k, r2' = some k → w.heap.size ≤ k)) ∧
        HD (wx.heap[wr.heap.size + 1]? = some (.cells #[.int .i64 q.f, .int .i64 q.t, .string q.b] 45 (0, 0)) ∧ wx.heap[wr.heap.size + 2]? = some (.cells #[.int .i64 q.f, .int .i64 q.t, .string q.b] 45 (0, 0))) ∧ HD (Chg (fun _ => False) w wx))
      case first =>
        have hch : Chg (fun _ => False) wr (((wr.alloc (.cells #[.int .u8 ok, .int .i64 oi, .int .i64 oat, .int .u8 obits, .int .i64 pf, .int .i64 pt, .string pb] 68)).alloc (.cells #[.int .i64 0, .int .i64 0, .string ⟨#[]⟩] 45)).alloc (.cells #[.int .i64 0, .int .i64 0, .string ⟨#[]⟩] 45)) := (((Chg.refl (fun _ => False) wr).alloc _).alloc _).alloc _
        obtain ⟨ho3, hp3, hq3⟩ := three wr #[.int .u8 ok, .int .i64 oi, .int .i64 oat, .int .u8 obits, .int .i64 pf, .int .i64 pt, .string pb] #[.int .i64 0, .int .i64 0, .string ⟨#[]⟩] #[.int .i64 0, .int .i64 0, .string ⟨#[]⟩] 68 45 45
        have HW3 := Lib.hid (HN.out.none_ hch)
        have HCH := Lib.hid hch
        have HO3 := Lib.hid ho3
        have HP3 := Lib.hid hp3
        have HQ3 := Lib.hid hq3
        have hb1 := HN.out.l.lt
        have hb2 := HN.out.x.lt
        have HRL := Lib.hid (fun k (e : r = some k) => HN.out.l.rlt e)
        have HRX := Lib.hid (fun k (e : r2 = some k) => HN.out.x.rlt e)
        have HNB : Hid (∀ i, ¬ (wr.heap.size + i = w1.heap.size ∨ r = some (wr.heap.size + i))) := Lib.hid (fun i e => e.elim (fun e => by omega) (fun e => by have := HRL.out _ e; omega))
        have HNB2 : Hid (∀ i, ¬ (wr.heap.size + i = w1.heap.size + 1 ∨ r2 = some (wr.heap.size + i))) := Lib.hid (fun i e => e.elim (fun e => by omega) (fun e => by have := HRX.out _ e; omega))
        clear hch ho3 hp3 hq3
        by_cases h6 : ok % 7 = 6
        · by_cases hi : 0 ≤ oi ∧ oi < L.length
          · obtain ⟨j, rfl⟩ : ∃ j : Nat, oi = j := ⟨oi.toNat, by omega⟩
            have hjl : j < L.length := by omega
            obtain ⟨p, hp⟩ : ∃ p, L[j]? = some p := ⟨_, List.getElem?_eq_getElem hjl⟩
            have HP := Lib.hid hp
            clear hp hi
            go_wp2_with (first
              | (go_at_call 44; refine (Look_ok _ _ _ L lost (by exact HW3.out.l) j p HP.out).mono ?_; rintro e w4 ⟨rfl, hg⟩; simp only [Pk.val]; have HG4 := Lib.hid hg; have HN4 := Lib.hid (HW3.out.none_ hg); have HO4 := Lib.hid (hg.obj HO3.out (fun h => h)); have HP4 := Lib.hid (hg.obj HP3.out (fun h => h)); have HQ4 := Lib.hid (hg.obj HQ3.out (fun h => h)); obtain ⟨o0, o1, o2, o3, o4, o5, o6⟩ := opCells HO4.out; obtain ⟨z0, z1, z2, y0, y1, y2⟩ := pkCells HP4.out; clear hg; have HB4 := Lib.hid (boxSet HP4.out (.int .i64 p.f) (.int .i64 p.t) (.string p.b)))
              | (go_at_call 45; refine (rLook_ok _ _ _ L lost (by exact (HN4.out.chg HB4.out.2 (by omega) (fun e => by have := HRL.out _ e; omega) (by omega) (fun e => by have := HRX.out _ e; omega)).x) j p HP.out).mono ?_; rintro e w6 ⟨rfl, hg⟩; simp only [Pk.val]; have HG6 := Lib.hid hg; have HQ6 := Lib.hid (hg.obj (HB4.out.2.obj HQ4.out (by omega)) (fun h => h)); have HP6 := Lib.hid (hg.obj HB4.out.1 (fun h => h)); clear z0 z1 z2 y0 y1 y2; obtain ⟨z0, z1, z2, y0, y1, y2⟩ := pkCells HQ6.out; clear hg; have HB6 := Lib.hid (boxSet HQ6.out (.int .i64 p.f) (.int .i64 p.t) (.string p.b))))
            go_meet
            case rel =>
              have hwr := GG.out.size
              have hn4 := HN4.out.chg HB4.out.2 (by omega) (fun e => by have := HRL.out _ e; omega) (by omega) (fun e => by have := HRX.out _ e; omega)
              have hn6 := (hn4.none_ HG6.out).chg HB6.out.2 (by omega) (fun e => by have := HRL.out _ e; omega) (by omega) (fun e => by have := HRX.out _ e; omega)
              refine ⟨0, r, r2, L, lost, p, rfl, rfl, ⟨hn6⟩, HLEN, HB, ⟨⟨HB6.out.2.obj HP6.out (by omega), HB6.out.1⟩⟩, ⟨?_⟩⟩
              have g1 := GG.out.trans (HCH.out.trans HG4.out (fun _ h => h.elim)) (fun _ h => h.elim)
              have g2 := g1.trans HB4.out.2 (fun k e => .inr (by omega))
              have g3 := g2.trans HG6.out (fun _ h => h.elim)
              exact g3.trans HB6.out.2 (fun k e => .inr (by omega))
          · have HI : Hid (oi < 0 ∨ (L.length : Int) ≤ oi) := Lib.hid (by omega)
            clear hi
            go_wp2_with (first
              | (go_at_call 44; refine (Look_none _ _ _ L lost (by exact HW3.out.l) oi HI.out).mono ?_; rintro e w4 ⟨rfl, hg⟩; simp only [Pk.val, Pk.none]; have HG4 := Lib.hid hg; have HN4 := Lib.hid (HW3.out.none_ hg); have HO4 := Lib.hid (hg.obj HO3.out (fun h => h)); have HP4 := Lib.hid (hg.obj HP3.out (fun h => h)); have HQ4 := Lib.hid (hg.obj HQ3.out (fun h => h)); obtain ⟨o0, o1, o2, o3, o4, o5, o6⟩ := opCells HO4.out; obtain ⟨z0, z1, z2, y0, y1, y2⟩ := pkCells HP4.out; clear hg; have HB4 := Lib.hid (boxSet HP4.out (.int .i64 0) (.int .i64 0) (.string ⟨#[]⟩)))
              | (go_at_call 45; refine (rLook_none _ _ _ L lost (by exact (HN4.out.chg HB4.out.2 (by omega) (fun e => by have := HRL.out _ e; omega) (by omega) (fun e => by have := HRX.out _ e; omega)).x) oi HI.out).mono ?_; rintro e w6 ⟨rfl, hg⟩; simp only [Pk.val, Pk.none]; have HG6 := Lib.hid hg; have HQ6 := Lib.hid (hg.obj (HB4.out.2.obj HQ4.out (by omega)) (fun h => h)); have HP6 := Lib.hid (hg.obj HB4.out.1 (fun h => h)); clear z0 z1 z2 y0 y1 y2; obtain ⟨z0, z1, z2, y0, y1, y2⟩ := pkCells HQ6.out; clear hg; have HB6 := Lib.hid (boxSet HQ6.out (.int .i64 0) (.int .i64 0) (.string ⟨#[]⟩))))
            go_meet
            case rel =>
              have hwr := GG.out.size
              have hn4 := HN4.out.chg HB4.out.2 (by omega) (fun e => by have := HRL.out _ e; omega) (by omega) (fun e => by have := HRX.out _ e; omega)
              have hn6 := (hn4.none_ HG6.out).chg HB6.out.2 (by omega) (fun e => by have := HRL.out _ e; omega) (by omega) (fun e => by have := HRX.out _ e; omega)
              refine ⟨5, r, r2, L, lost, Pk.none, rfl, rfl, ⟨hn6⟩, HLEN, HB, ⟨⟨HB6.out.2.obj HP6.out (by omega), HB6.out.1⟩⟩, ⟨?_⟩⟩
              have g1 := GG.out.trans (HCH.out.trans HG4.out (fun _ h => h.elim)) (fun _ h => h.elim)
              have g2 := g1.trans HB4.out.2 (fun k e => .inr (by omega))
              have g3 := g2.trans HG6.out (fun _ h => h.elim)
              exact g3.trans HB6.out.2 (fun k e => .inr (by omega))
        · by_cases h2 : ok % 7 = 2
          · by_cases hi : 0 ≤ oi ∧ oi < L.length
            · obtain ⟨j, rfl⟩ : ∃ j : Nat, oi = j := ⟨oi.toNat, by omega⟩
              have hjl : j < L.length := by omega
              obtain ⟨p, hp⟩ : ∃ p, L[j]? = some p := ⟨_, List.getElem?_eq_getElem hjl⟩
              have HP := Lib.hid hp
              clear hp hi
              go_wp2_with (first
                | (go_at_call 20; refine (Take_ok _ _ _ L lost (by exact HW3.out.l) j p HP.out HLEN.out).mono ?_; rintro e w4 ⟨rfl, hna, hg⟩; simp only [Pk.val]; have HG4 := Lib.hid hg; have HN4 := Lib.hid (HW3.out.stepL hna (Newer.refl _ _) hg); have HO4 := Lib.hid (hg.obj HO3.out (HNB.out 0)); have HP4 := Lib.hid (hg.obj HP3.out (HNB.out 1)); have HQ4 := Lib.hid (hg.obj HQ3.out (HNB.out 2)); obtain ⟨o0, o1, o2, o3, o4, o5, o6⟩ := opCells HO4.out; obtain ⟨z0, z1, z2, y0, y1, y2⟩ := pkCells HP4.out; clear hg hna; have HB4 := Lib.hid (boxSet HP4.out (.int .i64 p.f) (.int .i64 p.t) (.string p.b)); have HN5 := Lib.hid (HN4.out.chg HB4.out.2 (by omega) (fun e => by have := HRL.out _ e; omega) (by omega) (fun e => by have := HRX.out _ e; omega)))
                | (go_at_call 37; refine (rTake_ok _ _ _ L lost (by exact HN5.out.x) j p HP.out HLEN.out).mono ?_; rintro e w6 ⟨rfl, r2', hna, hnw, hg⟩; simp only [Pk.val]; have HG6 := Lib.hid hg; have HNW := Lib.hid hnw; have HN6 := Lib.hid (HN5.out.stepR hna hnw hg); have HQ6 := Lib.hid (hg.obj (HB4.out.2.obj HQ4.out (by omega)) (HNB2.out 2)); have HP6 := Lib.hid (hg.obj HB4.out.1 (HNB2.out 1)); clear z0 z1 z2 y0 y1 y2; obtain ⟨z0, z1, z2, y0, y1, y2⟩ := pkCells HQ6.out; clear hg hna hnw; have HB6 := Lib.hid (boxSet HQ6.out (.int .i64 p.f) (.int .i64 p.t) (.string p.b))))
              go_meet
              case rel =>
                have hwr := GG.out.size
                have hq4 := blkLt HQ4.out
                have hs4 := HB4.out.2.size
                have hr2 : r2' ≠ some (wr.heap.size + 2) := fun e => (HNW.out _ e).elim (fun e => by have := HRX.out _ e; omega) (fun e => by omega)
                have hn6 := HN6.out.chg HB6.out.2 (by omega) (fun e => by have := HRL.out _ e; omega) (by omega) hr2
                have hlen : (L.eraseIdx j).length ≤ 64 := by
                  have := HLEN.out
                  rw [List.length_eraseIdx]
                  split <;> omega
                refine ⟨0, r, r2', L.eraseIdx j, lost, p, rfl, rfl, ⟨hn6⟩, ⟨hlen⟩, ⟨⟨HB.out.1, fun k e => (HNW.out k e).elim (HB.out.2 k) (fun h => by omega)⟩⟩, ⟨⟨HB6.out.2.obj HP6.out (by omega), HB6.out.1⟩⟩, ⟨?_⟩⟩
                have g1 := (GG.out.trans HCH.out (fun _ h => h.elim)).trans HG4.out (fun k e => .inr (e.elim (fun e => by omega) (HB.out.1 k)))
                have g2 := g1.trans HB4.out.2 (fun k e => .inr (by omega))
                have g3 := g2.trans HG6.out (fun k e => .inr (e.elim (fun e => by omega) (HB.out.2 k)))
                exact g3.trans HB6.out.2 (fun k e => .inr (by omega))
            · have HI : Hid (oi < 0 ∨ (L.length : Int) ≤ oi) := Lib.hid (by omega)
              clear hi
              go_wp2_with (first
                | (go_at_call 20; refine (Take_none _ _ _ L lost (by exact HW3.out.l) oi HI.out).mono ?_; rintro e w4 ⟨rfl, hg⟩; simp only [Pk.val, Pk.none]; have HG4 := Lib.hid hg; have HN4 := Lib.hid (HW3.out.none_ hg); have HO4 := Lib.hid (hg.obj HO3.out (fun h => h)); have HP4 := Lib.hid (hg.obj HP3.out (fun h => h)); have HQ4 := Lib.hid (hg.obj HQ3.out (fun h => h)); obtain ⟨o0, o1, o2, o3, o4, o5, o6⟩ := opCells HO4.out; obtain ⟨z0, z1, z2, y0, y1, y2⟩ := pkCells HP4.out; clear hg; have HB4 := Lib.hid (boxSet HP4.out (.int .i64 0) (.int .i64 0) (.string ⟨#[]⟩)))
                | (go_at_call 37; refine (rTake_none _ _ _ L lost (by exact (HN4.out.chg HB4.out.2 (by omega) (fun e => by have := HRL.out _ e; omega) (by omega) (fun e => by have := HRX.out _ e; omega)).x) oi HI.out).mono ?_; rintro e w6 ⟨rfl, hg⟩; simp only [Pk.val, Pk.none]; have HG6 := Lib.hid hg; have HQ6 := Lib.hid (hg.obj (HB4.out.2.obj HQ4.out (by omega)) (fun h => h)); have HP6 := Lib.hid (hg.obj HB4.out.1 (fun h => h)); clear z0 z1 z2 y0 y1 y2; obtain ⟨z0, z1, z2, y0, y1, y2⟩ := pkCells HQ6.out; clear hg; have HB6 := Lib.hid (boxSet HQ6.out (.int .i64 0) (.int .i64 0) (.string ⟨#[]⟩))))
              go_meet
              case rel =>
                have hwr := GG.out.size
                have hn4 := HN4.out.chg HB4.out.2 (by omega) (fun e => by have := HRL.out _ e; omega) (by omega) (fun e => by have := HRX.out _ e; omega)
                have hn6 := (hn4.none_ HG6.out).chg HB6.out.2 (by omega) (fun e => by have := HRL.out _ e; omega) (by omega) (fun e => by have := HRX.out _ e; omega)
                refine ⟨5, r, r2, L, lost, Pk.none, rfl, rfl, ⟨hn6⟩, HLEN, HB, ⟨⟨HB6.out.2.obj HP6.out (by omega), HB6.out.1⟩⟩, ⟨?_⟩⟩
                have g1 := GG.out.trans (HCH.out.trans HG4.out (fun _ h => h.elim)) (fun _ h => h.elim)
                have g2 := g1.trans HB4.out.2 (fun k e => .inr (by omega))
                have g3 := g2.trans HG6.out (fun _ h => h.elim)
                exact g3.trans HB6.out.2 (fun k e => .inr (by omega))
          · by_cases h3 : ok % 7 = 3
            · by_cases hi : 0 ≤ oi ∧ oi < L.length
              · obtain ⟨j, rfl⟩ : ∃ j : Nat, oi = j := ⟨oi.toNat, by omega⟩
                have hjl : j < L.length := by omega
                obtain ⟨p, hp⟩ : ∃ p, L[j]? = some p := ⟨_, List.getElem?_eq_getElem hjl⟩
                have HP := Lib.hid hp
                clear hp hi
                have hk2 : (ok % 7 == 2) = false := by simp [h3]
                have hk3 : (ok % 7 == 3) = true := by simp [h3]
                clear h6 h2 h3
                go_wp2_with fail
                go_region_held3 (fun w' => w'.cell? ⟨wr.heap.size, 1, none⟩ = some (.int .i64 j)) (first | go_keep | exact o4 | exact o6 | exact blkCell HO3.out 1) (first
                  | (go_at_call 38; refine (Drop_ok _ _ _ L lost (by exact HW3.out.l) j p HP.out HLEN.out).mono ?_; rintro e w4 ⟨rfl, r', hna, hnw, hg⟩; have HG4 := Lib.hid hg; have HNW1 := Lib.hid hnw; have HN4 := Lib.hid (HW3.out.drew.stepL hna hnw hg); have HO4 := Lib.hid (hg.obj HO3.out (HNB.out 0)); have HP4 := Lib.hid (hg.obj HP3.out (HNB.out 1)); have HQ4 := Lib.hid (hg.obj HQ3.out (HNB.out 2)); have o4 := blkCell HO4.out 1; clear hg hna hnw)
                  | (go_at_call 39; refine (rDrop_ok _ _ _ L lost (by exact HN4.out.x) j p HP.out HLEN.out).mono ?_; rintro e w6 ⟨rfl, r2', hna, hnw, hg⟩; have HG6 := Lib.hid hg; have HNW := Lib.hid hnw; have HN6 := Lib.hid (HN4.out.stepR hna hnw hg); have HO6 := Lib.hid (hg.obj HO4.out (HNB2.out 0)); have o6 := blkCell HO6.out 1; have HQ6 := Lib.hid (hg.obj HQ4.out (HNB2.out 2)); have HP6 := Lib.hid (hg.obj HP4.out (HNB2.out 1)); clear hg hna hnw))
                all_goals
                  go_wp2_with fail
                  go_meet
                  case rel =>
                    have hwr := GG.out.size
                    have hsz := HCH.out.size
                    have hs4 := HG4.out.size
                    have hlen : (L.eraseIdx j).length ≤ 64 := by
                      have := HLEN.out
                      rw [List.length_eraseIdx]
                      split <;> omega
                    have hs3 : w.heap.size ≤ w4.heap.size := Nat.le_trans hwr (Nat.le_trans hsz hs4)
                    refine ⟨0, r', r2', L.eraseIdx j, lost, Pk.none, rfl, rfl, ⟨HN6.out⟩, ⟨hlen⟩, ⟨⟨fun k e => (HNW1.out k e).elim (HB.out.1 k) (fun h => Nat.le_trans (Nat.le_trans hwr hsz) h), fun k e => (HNW.out k e).elim (HB.out.2 k) (fun h => Nat.le_trans hs3 h)⟩⟩, ⟨⟨HP6.out, HQ6.out⟩⟩, ⟨?_⟩⟩
                    have g1 := ((GG.out.trans HCH.out (fun _ h => h.elim)).drew).trans HG4.out (fun k e => .inr (e.elim (fun e => by omega) (HB.out.1 k)))
                    exact g1.trans HG6.out (fun k e => .inr (e.elim (fun e => by omega) (HB.out.2 k)))
              · have HI : Hid (oi < 0 ∨ (L.length : Int) ≤ oi) := Lib.hid (by omega)
                clear hi
                have hk2 : (ok % 7 == 2) = false := by simp [h3]
                have hk3 : (ok % 7 == 3) = true := by simp [h3]
                clear h6 h2 h3
                go_wp2_with fail
                go_region_held3 (fun w' => w'.cell? ⟨wr.heap.size, 1, none⟩ = some (.int .i64 oi)) (first | go_keep | exact o4 | exact o6 | exact blkCell HO3.out 1) (first
                  | (go_at_call 38; refine (Drop_none _ _ _ L lost (by exact HW3.out.l) oi HI.out).mono ?_; rintro e w4 ⟨rfl, hg⟩; have HG4 := Lib.hid hg; have HN4 := Lib.hid (HW3.out.drew.none_ hg); have HO4 := Lib.hid (hg.obj HO3.out (fun h => h)); have HP4 := Lib.hid (hg.obj HP3.out (fun h => h)); have HQ4 := Lib.hid (hg.obj HQ3.out (fun h => h)); have o4 := blkCell HO4.out 1; clear hg)
                  | (go_at_call 39; refine (rDrop_none _ _ _ L lost (by exact HN4.out.x) oi HI.out).mono ?_; rintro e w6 ⟨rfl, hg⟩; have HG6 := Lib.hid hg; have HN6 := Lib.hid (HN4.out.none_ hg); have HO6 := Lib.hid (hg.obj HO4.out (fun h => h)); have o6 := blkCell HO6.out 1; have HQ6 := Lib.hid (hg.obj HQ4.out (fun h => h)); have HP6 := Lib.hid (hg.obj HP4.out (fun h => h)); clear hg))
                all_goals
                  go_wp2_with fail
                  go_meet
                  case rel =>
                    refine ⟨5, r, r2, L, lost, Pk.none, rfl, rfl, ⟨HN6.out⟩, HLEN, HB, ⟨⟨HP6.out, HQ6.out⟩⟩, ⟨?_⟩⟩
                    have g1 := ((GG.out.trans HCH.out (fun _ h => h.elim)).drew).trans HG4.out (fun _ h => h.elim)
                    exact g1.trans HG6.out (fun _ h => h.elim)
            · by_cases h4 : ok % 7 = 4
              · by_cases hi : 0 ≤ oi ∧ oi < L.length
                · obtain ⟨j, rfl⟩ : ∃ j : Nat, oi = j := ⟨oi.toNat, by omega⟩
                  have hjl : j < L.length := by omega
                  obtain ⟨p, hp⟩ : ∃ p, L[j]? = some p := ⟨_, List.getElem?_eq_getElem hjl⟩
                  have HP := Lib.hid hp
                  clear hp hi
                  have hk2 : (ok % 7 == 2) = false := by simp [h4]
                  have hk3 : (ok % 7 == 3) = false := by simp [h4]
                  have hk4 : (ok % 7 == 4) = true := by simp [h4]
                  clear h6 h2 h3 h4
                  go_wp2_with fail
                  go_region_held3 (fun w' => w'.cell? ⟨wr.heap.size, 1, none⟩ = some (.int .i64 j)) (first | go_keep | exact o4 | exact o6 | exact blkCell HO3.out 1) (first
                    | (go_at_call 40; refine (Twice_ok _ _ _ L lost (by exact HW3.out.l) j p HP.out).mono ?_; rintro e w4 ⟨rfl, r', hna, hnw, hg⟩; have HG4 := Lib.hid hg; have HNW1 := Lib.hid hnw; have HN4 := Lib.hid (HW3.out.drew.stepL hna hnw hg); have HO4 := Lib.hid (hg.obj HO3.out (HNB.out 0)); have HP4 := Lib.hid (hg.obj HP3.out (HNB.out 1)); have HQ4 := Lib.hid (hg.obj HQ3.out (HNB.out 2)); have o4 := blkCell HO4.out 1; clear hg hna hnw)
                    | (go_at_call 41; refine (rTwice_ok _ _ _ L lost (by exact HN4.out.x) j p HP.out).mono ?_; rintro e w6 ⟨rfl, r2', hna, hnw, hg⟩; have HG6 := Lib.hid hg; have HNW := Lib.hid hnw; have HN6 := Lib.hid (HN4.out.stepR hna hnw hg); have HO6 := Lib.hid (hg.obj HO4.out (HNB2.out 0)); have o6 := blkCell HO6.out 1; have HQ6 := Lib.hid (hg.obj HQ4.out (HNB2.out 2)); have HP6 := Lib.hid (hg.obj HP4.out (HNB2.out 1)); clear hg hna hnw))
                  all_goals
                    go_wp2_with fail
                    go_meet
                    case rel =>
                      have hwr := GG.out.size
                      have hsz := HCH.out.size
                      have hs4 := HG4.out.size
                      have hlen := sendF_len L lost p HLEN.out
                      have hs3 : w.heap.size ≤ w4.heap.size := Nat.le_trans hwr (Nat.le_trans hsz hs4)
                      refine ⟨(sendF L lost p).1, r', r2', (sendF L lost p).2.1, (sendF L lost p).2.2, Pk.none, rfl, rfl, ⟨HN6.out⟩, ⟨hlen⟩, ⟨⟨fun k e => (HNW1.out k e).elim (HB.out.1 k) (fun h => Nat.le_trans (Nat.le_trans hwr hsz) h), fun k e => (HNW.out k e).elim (HB.out.2 k) (fun h => Nat.le_trans hs3 h)⟩⟩, ⟨⟨HP6.out, HQ6.out⟩⟩, ⟨?_⟩⟩
                      have g1 := ((GG.out.trans HCH.out (fun _ h => h.elim)).drew).trans HG4.out (fun k e => .inr (e.elim (fun e => by omega) (HB.out.1 k)))
                      exact g1.trans HG6.out (fun k e => .inr (e.elim (fun e => by omega) (HB.out.2 k)))
                · have HI : Hid (oi < 0 ∨ (L.length : Int) ≤ oi) := Lib.hid (by omega)
                  clear hi
                  have hk2 : (ok % 7 == 2) = false := by simp [h4]
                  have hk3 : (ok % 7 == 3) = false := by simp [h4]
                  have hk4 : (ok % 7 == 4) = true := by simp [h4]
                  clear h6 h2 h3 h4
                  go_wp2_with fail
                  go_region_held3 (fun w' => w'.cell? ⟨wr.heap.size, 1, none⟩ = some (.int .i64 oi)) (first | go_keep | exact o4 | exact o6 | exact blkCell HO3.out 1) (first
                    | (go_at_call 40; refine (Twice_none _ _ _ L lost (by exact HW3.out.l) oi HI.out).mono ?_; rintro e w4 ⟨rfl, hg⟩; have HG4 := Lib.hid hg; have HN4 := Lib.hid (HW3.out.drew.none_ hg); have HO4 := Lib.hid (hg.obj HO3.out (fun h => h)); have HP4 := Lib.hid (hg.obj HP3.out (fun h => h)); have HQ4 := Lib.hid (hg.obj HQ3.out (fun h => h)); have o4 := blkCell HO4.out 1; clear hg)
                    | (go_at_call 41; refine (rTwice_none _ _ _ L lost (by exact HN4.out.x) oi HI.out).mono ?_; rintro e w6 ⟨rfl, hg⟩; have HG6 := Lib.hid hg; have HN6 := Lib.hid (HN4.out.none_ hg); have HO6 := Lib.hid (hg.obj HO4.out (fun h => h)); have o6 := blkCell HO6.out 1; have HQ6 := Lib.hid (hg.obj HQ4.out (fun h => h)); have HP6 := Lib.hid (hg.obj HP4.out (fun h => h)); clear hg))
                  all_goals
                    go_wp2_with fail
                    go_meet
                    case rel =>
                      refine ⟨5, r, r2, L, lost, Pk.none, rfl, rfl, ⟨HN6.out⟩, HLEN, HB, ⟨⟨HP6.out, HQ6.out⟩⟩, ⟨?_⟩⟩
                      have g1 := ((GG.out.trans HCH.out (fun _ h => h.elim)).drew).trans HG4.out (fun _ h => h.elim)
                      exact g1.trans HG6.out (fun _ h => h.elim)
              · by_cases h5k : ok % 7 = 5
                · by_cases hi : 0 ≤ oi ∧ oi < L.length
                  · obtain ⟨j, rfl⟩ : ∃ j : Nat, oi = j := ⟨oi.toNat, by omega⟩
                    have hjl : j < L.length := by omega
                    obtain ⟨p, hp⟩ : ∃ p, L[j]? = some p := ⟨_, List.getElem?_eq_getElem hjl⟩
                    have HP := Lib.hid hp
                    clear hp hi
                    by_cases hat : 0 ≤ oat ∧ oat < p.b.size
                    · obtain ⟨a2, rfl⟩ : ∃ a2 : Nat, oat = a2 := ⟨oat.toNat, by omega⟩
                      have HA : Hid (a2 < p.b.size) := Lib.hid (by omega)
                      clear hat
                      have hk2 : (ok % 7 == 2) = false := by simp [h5k]
                      have hk3 : (ok % 7 == 3) = false := by simp [h5k]
                      have hk4 : (ok % 7 == 4) = false := by simp [h5k]
                      have hk5 : (ok % 7 == 5) = true := by simp [h5k]
                      clear h6 h2 h3 h4 h5k
                      go_wp2_with fail
                      go_region_held3 (fun w' => w'.cell? ⟨wr.heap.size, 1, none⟩ = some (.int .i64 j) ∧ w'.cell? ⟨wr.heap.size, 2, none⟩ = some (.int .i64 a2) ∧ w'.cell? ⟨wr.heap.size, 3, none⟩ = some (.int .u8 obits)) (first | go_keep | exact ⟨o4, p4, q4⟩ | exact ⟨o6, p6, q6⟩ | exact ⟨blkCell HO3.out 1, blkCell HO3.out 2, blkCell HO3.out 3⟩) (first
                        | (go_at_call 42; refine (Turn_ok _ _ _ L lost (by exact HW3.out.l) j p HP.out a2 obits HA.out HLEN.out).mono ?_; rintro e w4 ⟨rfl, r', hna, hnw, hg⟩; have HG4 := Lib.hid hg; have HNW1 := Lib.hid hnw; have HN4 := Lib.hid (HW3.out.drew.stepL hna hnw hg); have HO4 := Lib.hid (hg.obj HO3.out (HNB.out 0)); have HP4 := Lib.hid (hg.obj HP3.out (HNB.out 1)); have HQ4 := Lib.hid (hg.obj HQ3.out (HNB.out 2)); have o4 := blkCell HO4.out 1; have p4 := blkCell HO4.out 2; have q4 := blkCell HO4.out 3; clear hg hna hnw)
                        | (go_at_call 43; refine (rTurn_ok _ _ _ L lost (by exact HN4.out.x) j p HP.out a2 obits HA.out HLEN.out).mono ?_; rintro e w6 ⟨rfl, r2', hna, hnw, hg⟩; have HG6 := Lib.hid hg; have HNW := Lib.hid hnw; have HN6 := Lib.hid (HN4.out.stepR hna hnw hg); have HO6 := Lib.hid (hg.obj HO4.out (HNB2.out 0)); have o6 := blkCell HO6.out 1; have p6 := blkCell HO6.out 2; have q6 := blkCell HO6.out 3; have HQ6 := Lib.hid (hg.obj HQ4.out (HNB2.out 2)); have HP6 := Lib.hid (hg.obj HP4.out (HNB2.out 1)); clear hg hna hnw))
                      all_goals
                        go_wp2_with fail
                        go_meet
                        case rel =>
                          have hwr := GG.out.size
                          have hsz := HCH.out.size
                          have hs4 := HG4.out.size
                          have hlen : (L.set j ⟨p.f, p.t, turnB p.b a2 obits⟩).length ≤ 64 := by
                            rw [List.length_set]
                            exact HLEN.out
                          have hs3 : w.heap.size ≤ w4.heap.size := Nat.le_trans hwr (Nat.le_trans hsz hs4)
                          refine ⟨0, r', r2', L.set j ⟨p.f, p.t, turnB p.b a2 obits⟩, lost, Pk.none, rfl, rfl, ⟨HN6.out⟩, ⟨hlen⟩, ⟨⟨fun k e => (HNW1.out k e).elim (HB.out.1 k) (fun h => Nat.le_trans (Nat.le_trans hwr hsz) h), fun k e => (HNW.out k e).elim (HB.out.2 k) (fun h => Nat.le_trans hs3 h)⟩⟩, ⟨⟨HP6.out, HQ6.out⟩⟩, ⟨?_⟩⟩
                          have g1 := ((GG.out.trans HCH.out (fun _ h => h.elim)).drew).trans HG4.out (fun k e => .inr (e.elim (fun e => by omega) (HB.out.1 k)))
                          exact g1.trans HG6.out (fun k e => .inr (e.elim (fun e => by omega) (HB.out.2 k)))
                    · have HA : Hid (oat < 0 ∨ (p.b.size : Int) ≤ oat) := Lib.hid (by omega)
                      clear hat
                      have hk2 : (ok % 7 == 2) = false := by simp [h5k]
                      have hk3 : (ok % 7 == 3) = false := by simp [h5k]
                      have hk4 : (ok % 7 == 4) = false := by simp [h5k]
                      have hk5 : (ok % 7 == 5) = true := by simp [h5k]
                      clear h6 h2 h3 h4 h5k
                      go_wp2_with fail
                      go_region_held3 (fun w' => w'.cell? ⟨wr.heap.size, 1, none⟩ = some (.int .i64 j) ∧ w'.cell? ⟨wr.heap.size, 2, none⟩ = some (.int .i64 oat) ∧ w'.cell? ⟨wr.heap.size, 3, none⟩ = some (.int .u8 obits)) (first | go_keep | exact ⟨o4, p4, q4⟩ | exact ⟨o6, p6, q6⟩ | exact ⟨blkCell HO3.out 1, blkCell HO3.out 2, blkCell HO3.out 3⟩) (first
                        | (go_at_call 42; refine (Turn_arg _ _ _ L lost (by exact HW3.out.l) j p HP.out oat obits HA.out).mono ?_; rintro e w4 ⟨rfl, hg⟩; have HG4 := Lib.hid hg; have HN4 := Lib.hid (HW3.out.drew.none_ hg); have HO4 := Lib.hid (hg.obj HO3.out (fun h => h)); have HP4 := Lib.hid (hg.obj HP3.out (fun h => h)); have HQ4 := Lib.hid (hg.obj HQ3.out (fun h => h)); have o4 := blkCell HO4.out 1; have p4 := blkCell HO4.out 2; have q4 := blkCell HO4.out 3; clear hg)
                        | (go_at_call 43; refine (rTurn_arg _ _ _ L lost (by exact HN4.out.x) j p HP.out oat obits HA.out).mono ?_; rintro e w6 ⟨rfl, hg⟩; have HG6 := Lib.hid hg; have HN6 := Lib.hid (HN4.out.none_ hg); have HO6 := Lib.hid (hg.obj HO4.out (fun h => h)); have o6 := blkCell HO6.out 1; have p6 := blkCell HO6.out 2; have q6 := blkCell HO6.out 3; have HQ6 := Lib.hid (hg.obj HQ4.out (fun h => h)); have HP6 := Lib.hid (hg.obj HP4.out (fun h => h)); clear hg))
                      all_goals
                        go_wp2_with fail
                        go_meet
                        case rel =>
                          refine ⟨1, r, r2, L, lost, Pk.none, rfl, rfl, ⟨HN6.out⟩, HLEN, HB, ⟨⟨HP6.out, HQ6.out⟩⟩, ⟨?_⟩⟩
                          have g1 := ((GG.out.trans HCH.out (fun _ h => h.elim)).drew).trans HG4.out (fun _ h => h.elim)
                          exact g1.trans HG6.out (fun _ h => h.elim)
                  · have HI : Hid (oi < 0 ∨ (L.length : Int) ≤ oi) := Lib.hid (by omega)
                    clear hi
                    have hk2 : (ok % 7 == 2) = false := by simp [h5k]
                    have hk3 : (ok % 7 == 3) = false := by simp [h5k]
                    have hk4 : (ok % 7 == 4) = false := by simp [h5k]
                    have hk5 : (ok % 7 == 5) = true := by simp [h5k]
                    clear h6 h2 h3 h4 h5k
                    go_wp2_with fail
                    go_region_held3 (fun w' => w'.cell? ⟨wr.heap.size, 1, none⟩ = some (.int .i64 oi) ∧ w'.cell? ⟨wr.heap.size, 2, none⟩ = some (.int .i64 oat) ∧ w'.cell? ⟨wr.heap.size, 3, none⟩ = some (.int .u8 obits)) (first | go_keep | exact ⟨o4, p4, q4⟩ | exact ⟨o6, p6, q6⟩ | exact ⟨blkCell HO3.out 1, blkCell HO3.out 2, blkCell HO3.out 3⟩) (first
                      | (go_at_call 42; refine (Turn_none _ _ _ L lost (by exact HW3.out.l) oi oat obits HI.out).mono ?_; rintro e w4 ⟨rfl, hg⟩; have HG4 := Lib.hid hg; have HN4 := Lib.hid (HW3.out.drew.none_ hg); have HO4 := Lib.hid (hg.obj HO3.out (fun h => h)); have HP4 := Lib.hid (hg.obj HP3.out (fun h => h)); have HQ4 := Lib.hid (hg.obj HQ3.out (fun h => h)); have o4 := blkCell HO4.out 1; have p4 := blkCell HO4.out 2; have q4 := blkCell HO4.out 3; clear hg)
                      | (go_at_call 43; refine (rTurn_none _ _ _ L lost (by exact HN4.out.x) oi oat obits HI.out).mono ?_; rintro e w6 ⟨rfl, hg⟩; have HG6 := Lib.hid hg; have HN6 := Lib.hid (HN4.out.none_ hg); have HO6 := Lib.hid (hg.obj HO4.out (fun h => h)); have o6 := blkCell HO6.out 1; have p6 := blkCell HO6.out 2; have q6 := blkCell HO6.out 3; have HQ6 := Lib.hid (hg.obj HQ4.out (fun h => h)); have HP6 := Lib.hid (hg.obj HP4.out (fun h => h)); clear hg))
                    all_goals
                      go_wp2_with fail
                      go_meet
                      case rel =>
                        refine ⟨5, r, r2, L, lost, Pk.none, rfl, rfl, ⟨HN6.out⟩, HLEN, HB, ⟨⟨HP6.out, HQ6.out⟩⟩, ⟨?_⟩⟩
                        have g1 := ((GG.out.trans HCH.out (fun _ h => h.elim)).drew).trans HG4.out (fun _ h => h.elim)
                        exact g1.trans HG6.out (fun _ h => h.elim)
                · skip
                  have hk2 : (ok % 7 == 2) = false := by simp [h2]
                  have hk3 : (ok % 7 == 3) = false := by simp [h3]
                  have hk4 : (ok % 7 == 4) = false := by simp [h4]
                  have hk5 : (ok % 7 == 5) = false := by simp [h5k]
                  have hk6 : (ok % 7 == 6) = false := by simp [h6]
                  clear h6 h2 h3 h4 h5k
                  go_wp2_with fail
                  go_region_held3 (fun w' => w'.cell? ⟨wr.heap.size, 4, none⟩ = some (.int .i64 pf) ∧ w'.cell? ⟨wr.heap.size, 5, none⟩ = some (.int .i64 pt) ∧ w'.cell? ⟨wr.heap.size, 6, none⟩ = some (.string pb)) (first | go_keep | exact ⟨o4, p4, q4⟩ | exact ⟨o6, p6, q6⟩ | exact ⟨blkCell HO3.out 4, blkCell HO3.out 5, blkCell HO3.out 6⟩) (first
                    | (go_at_call 17; refine (Send_calls _ _ _ L lost (by exact HW3.out.l) ⟨pf, pt, pb⟩).mono ?_; rintro e w4 ⟨rfl, r', hna, hnw, hg⟩; have HG4 := Lib.hid hg; have HNW1 := Lib.hid hnw; have HN4 := Lib.hid (HW3.out.drew.stepL hna hnw hg); have HO4 := Lib.hid (hg.obj HO3.out (HNB.out 0)); have HP4 := Lib.hid (hg.obj HP3.out (HNB.out 1)); have HQ4 := Lib.hid (hg.obj HQ3.out (HNB.out 2)); have o4 := blkCell HO4.out 4; have p4 := blkCell HO4.out 5; have q4 := blkCell HO4.out 6; clear hg hna hnw)
                    | (go_at_call 46; refine (rSend_calls _ _ _ L lost (by exact HN4.out.x) ⟨pf, pt, pb⟩).mono ?_; rintro e w6 ⟨rfl, r2', hna, hnw, hg⟩; have HG6 := Lib.hid hg; have HNW := Lib.hid hnw; have HN6 := Lib.hid (HN4.out.stepR hna hnw hg); have HO6 := Lib.hid (hg.obj HO4.out (HNB2.out 0)); have o6 := blkCell HO6.out 4; have p6 := blkCell HO6.out 5; have q6 := blkCell HO6.out 6; have HQ6 := Lib.hid (hg.obj HQ4.out (HNB2.out 2)); have HP6 := Lib.hid (hg.obj HP4.out (HNB2.out 1)); clear hg hna hnw))
                  all_goals
                    go_wp2_with fail
                    go_meet
                    case rel =>
                      have hwr := GG.out.size
                      have hsz := HCH.out.size
                      have hs4 := HG4.out.size
                      have hlen := sendF_len L lost ⟨pf, pt, pb⟩ HLEN.out
                      have hs3 : w.heap.size ≤ w4.heap.size := Nat.le_trans hwr (Nat.le_trans hsz hs4)
                      refine ⟨(sendF L lost ⟨pf, pt, pb⟩).1, r', r2', (sendF L lost ⟨pf, pt, pb⟩).2.1, (sendF L lost ⟨pf, pt, pb⟩).2.2, Pk.none, rfl, rfl, ⟨HN6.out⟩, ⟨hlen⟩, ⟨⟨fun k e => (HNW1.out k e).elim (HB.out.1 k) (fun h => Nat.le_trans (Nat.le_trans hwr hsz) h), fun k e => (HNW.out k e).elim (HB.out.2 k) (fun h => Nat.le_trans hs3 h)⟩⟩, ⟨⟨HP6.out, HQ6.out⟩⟩, ⟨?_⟩⟩
                      have g1 := ((GG.out.trans HCH.out (fun _ h => h.elim)).drew).trans HG4.out (fun k e => .inr (e.elim (fun e => by omega) (HB.out.1 k)))
                      exact g1.trans HG6.out (fun k e => .inr (e.elim (fun e => by omega) (HB.out.2 k)))
      case rest =>
        obtain ⟨er, r3, r4, L2, lost2, q, rfl, rfl, HN2, HLEN2, HB2, HPQ, GG2⟩ := hcut
        obtain ⟨z0, z1, z2, _⟩ := pkCells HPQ.out.1
        obtain ⟨y0, y1, y2, _⟩ := pkCells HPQ.out.2
        rw [show wr.heap.size + 2 = wr.heap.size + 1 + 1 from rfl] at y0 y1 y2
        obtain ⟨A2, cc2, hv, hrow⟩ := HN2.out.x
        obtain ⟨x0, x1, _, _⟩ := netCells hv
        clear hv hrow c0 c1 c2 c3 c4 c5 c6 hok1 hok2 HN HLEN HB
        go_wp2_with fail
        go_quiet ((first | (go_at_call 18; exact quietW (Count_calls _ _ _ _ _ (HN2.out.l.drewN _))) | (go_at_call 19; exact quietW (Lost_calls _ _ _ _ _ (HN2.out.l.drewN _)))))
        go_wp2_with fail
        clear z0 z1 z2 y0 y1 y2 x0 x1 HPQ
        go_loopw [119] (fun v wx => ∃ i : Nat, i ≤ L2.length ∧ v = .int .i64 i ∧ HD (Nets wx w1.heap.size r3 (w1.heap.size + 1) r4 L2 lost2 L2 lost2) ∧ HD (Chg (fun _ => False) w wx)) (fun v _ => L2.length - (intOf v).toNat)
        case atStart => exact ⟨0, Nat.zero_le _, rfl, ⟨HN2.out.none_ ((Chg.refl _ _).drewN _)⟩, ⟨GG2.out.drewN _⟩⟩
        case round =>
          rename_i wx _
          obtain ⟨i, hi, rfl, HN3, GG3⟩ := hrel
          have HLL := HLEN2.out
          by_cases hil : i < L2.length
          · obtain ⟨p, hp⟩ : ∃ p, L2[i]? = some p := ⟨_, List.getElem?_eq_getElem hil⟩
            have HP := Lib.hid hp
            clear hp
            have hi0 : (0 : Int) ≤ (i : Int) := by omega
            have hi1 : (i : Int) < (L2.length : Int) := by omega
            go_wp2_with (first
              | (go_at_call 44; refine (Look_ok _ _ _ L2 lost2 (by exact HN3.out.l) i p HP.out).mono ?_; rintro e w4 ⟨rfl, hg⟩; simp only [Pk.val]; have HG4 := Lib.hid hg; have HN4 := Lib.hid (HN3.out.none_ hg); clear hg; obtain ⟨g, c4, hv4, hr4, _, hrow4, d0, d1, d2⟩ := HN4.out.x.packet i p HP.out; have x0 := blkCell hv4 0; simp only [List.getElem?_toArray, List.getElem?_cons_zero] at x0; have hb4 := HN4.out.x.lt; have hg4 := HN4.out.x.rlt hr4; clear hv4 hr4 hrow4))
            go_quiet (fail)
            go_wp2
            exact ⟨⟨i + 1, by omega, by go_num, ⟨HN4.out.none_ (((Chg.refl _ _).alloc _).drewN _)⟩, ⟨((GG3.out.trans HG4.out (fun _ h => h.elim)).alloc _).drewN _⟩⟩, by simp [intOf]; omega⟩
          · obtain rfl : i = L2.length := by omega
            go_wp2
            exact ⟨⟨k + 1, r3, r4, L2, lost2, by omega, by go_num, HN3, HLEN2, HB2, GG3⟩, by simp [intOf]; omega⟩
    · obtain rfl : k = 200 := by omega
      clear HN HLEN HB
      go_wp2
      go_ret
      exact ⟨rfl, GG.out⟩
end Go.Proofs.Ytjlkflbkejpcaaa

/- TopRejects: bill.Check. -/
import Derived.Test.YtnhdlclicjmmnaaGreatHq
namespace Go.Proofs.YtnhdlclicjmmnaaGreat
open Go.RowKit Go.Lib Go.Shelf
def badB (v s c : Int) (h t : ByteArray) : Bool := ((((decide (v < 1) || decide ((255 : Int) < v)) || (decide (s < 1) || decide ((8192 : Int) < s))) || !partN c) || !((h.size : Int) == 32)) || !((t.size : Int) == 32)
def badL (s c : Int) (t : ByteArray) (l : List ByteArray) : Bool := (!((l.length : Int) == cntF s c) || !((rootF l).toList == t.toList)) || l.any badC
def checkE (v s c : Int) (h t : ByteArray) (l : List ByteArray) : Int := if badB v s c h t = true then 1 else if l.length = 0 then 0 else if badL s c t l = true then 1 else 0
set_option maxRecDepth 100000 in
set_option maxHeartbeats 4000000 in
theorem Check_calls (w : World) (v s c : Int) (h t : ByteArray) (A : Option Addr) (cap : Nat) (r : Option Nat) (l : List ByteArray) (hr : TRow w (.slice A l.length cap) r l) (hl : l.length ≤ 1048576) (hs : ∀ x ∈ l, x.size ≤ 1048576) :
    Calls Tryz.prog 24 #[.agg #[.int .i64 v, .int .i64 s, .int .i64 c, .string h, .string t, .slice A l.length cap]] w fun e w' => e = .returned (.int .i64 (checkE v s c h t l)) ∧ Chg (fun _ => False) w w' := by
  have HR := Lib.hid hr
  have HL := Lib.hid hl
  have HS := Lib.hid hs
  have C1 := Lib.hid (fun w => part_calls w c)
  obtain ⟨q, hq⟩ : ∃ q, partN c = q := ⟨_, rfl⟩
  rw [hq] at C1
  have HQ := Lib.hid hq
  clear hr hs hq
  cases d0 : decide (v < 1)
  case true =>
    have hh : badB v s c h t = true := by unfold badB; rw [d0]; simp
    have hE : checkE v s c h t l = 1 := if_pos hh
    clear hh
    go_enter Tryz.func24, Tryz.ntmps24
    go_wp2_with (go_at_call 19; refine (C1.out _).mono ?_; rintro e w1 ⟨rfl, he⟩; obtain rfl := he)
    go_ret
    exact ⟨by rw [hE]; rfl, (Chg.refl _ w).alloc _⟩
  case false =>
    cases d1 : decide ((255 : Int) < v)
    case true =>
      have hh : badB v s c h t = true := by unfold badB; rw [d1]; simp
      have hE : checkE v s c h t l = 1 := if_pos hh
      clear hh
      go_enter Tryz.func24, Tryz.ntmps24
      go_wp2_with (go_at_call 19; refine (C1.out _).mono ?_; rintro e w1 ⟨rfl, he⟩; obtain rfl := he)
      go_ret
      exact ⟨by rw [hE]; rfl, (Chg.refl _ w).alloc _⟩
    case false =>
      cases d2 : decide (s < 1)
      case true =>
        have hh : badB v s c h t = true := by unfold badB; rw [d2]; simp
        have hE : checkE v s c h t l = 1 := if_pos hh
        clear hh
        go_enter Tryz.func24, Tryz.ntmps24
        go_wp2_with (go_at_call 19; refine (C1.out _).mono ?_; rintro e w1 ⟨rfl, he⟩; obtain rfl := he)
        go_ret
        exact ⟨by rw [hE]; rfl, (Chg.refl _ w).alloc _⟩
      case false =>
        cases d3 : decide ((8192 : Int) < s)
        case true =>
          have hh : badB v s c h t = true := by unfold badB; rw [d3]; simp
          have hE : checkE v s c h t l = 1 := if_pos hh
          clear hh
          go_enter Tryz.func24, Tryz.ntmps24
          go_wp2_with (go_at_call 19; refine (C1.out _).mono ?_; rintro e w1 ⟨rfl, he⟩; obtain rfl := he)
          go_ret
          exact ⟨by rw [hE]; rfl, (Chg.refl _ w).alloc _⟩
        case false =>
          cases q
          case false =>
            have hh : badB v s c h t = true := by unfold badB; rw [HQ.out]; simp
            have hE : checkE v s c h t l = 1 := if_pos hh
            clear hh
            go_enter Tryz.func24, Tryz.ntmps24
            go_wp2_with (go_at_call 19; refine (C1.out _).mono ?_; rintro e w1 ⟨rfl, he⟩; obtain rfl := he)
            go_ret
            exact ⟨by rw [hE]; rfl, (Chg.refl _ w).alloc _⟩
          case true =>
            by_cases e0 : (h.size : Int) = 32
            case neg =>
              have hf : ((h.size : Int) == 32) = false := by simpa using e0
              have hh : badB v s c h t = true := by unfold badB; rw [hf]; simp
              have hE : checkE v s c h t l = 1 := if_pos hh
              clear hh
              go_enter Tryz.func24, Tryz.ntmps24
              go_wp2_with (go_at_call 19; refine (C1.out _).mono ?_; rintro e w1 ⟨rfl, he⟩; obtain rfl := he)
              go_ret
              exact ⟨by rw [hE]; rfl, (Chg.refl _ w).alloc _⟩
            case pos =>
              by_cases e1 : (t.size : Int) = 32
              case neg =>
                have hf : ((t.size : Int) == 32) = false := by simpa using e1
                have hh : badB v s c h t = true := by unfold badB; rw [hf]; simp
                have hE : checkE v s c h t l = 1 := if_pos hh
                clear hh
                go_enter Tryz.func24, Tryz.ntmps24
                go_wp2_with (go_at_call 19; refine (C1.out _).mono ?_; rintro e w1 ⟨rfl, he⟩; obtain rfl := he)
                go_ret
                exact ⟨by rw [hE]; rfl, (Chg.refl _ w).alloc _⟩
              case pos =>
                have hbad : badB v s c h t = false := by unfold badB; rw [d0, d1, d2, d3, HQ.out, e0, e1]; rfl
                have hE : checkE v s c h t l = if l.length = 0 then 0 else if badL s c t l = true then 1 else 0 := by unfold checkE; rw [hbad]; rfl
                by_cases hz : l.length = 0
                case pos =>
                  rw [if_pos hz] at hE
                  have hz1 : (l.length : Int) = 0 := by omega
                  clear hbad
                  go_enter Tryz.func24, Tryz.ntmps24
                  go_wp2_with (go_at_call 19; refine (C1.out _).mono ?_; rintro e w1 ⟨rfl, he⟩; obtain rfl := he)
                  go_ret
                  exact ⟨by rw [hE]; rfl, (Chg.refl _ w).alloc _⟩
                case neg =>
                  rw [if_neg hz] at hE
                  have hz1 : ((l.length : Int) == 0) = false := by simpa using hz
                  have hs1 := of_decide_eq_false d2
                  have hs2 := of_decide_eq_false d3
                  have hcr := partN_range HQ.out
                  have C2 := Lib.hid (fun w => count_calls w s c (by omega) (by omega) (by omega) (by omega))
                  go_enter Tryz.func24, Tryz.ntmps24
                  go_wp2_with fail
                  obtain ⟨b, hb⟩ : ∃ b, w.heap.size = b := ⟨_, rfl⟩
                  obtain ⟨W0, hW⟩ : ∃ W0, w.alloc (.cells #[.int .i64 v, .int .i64 s, .int .i64 c, .string h, .string t, .slice A l.length cap] 27) = W0 := ⟨_, rfl⟩
                  have hob : W0.heap[b]? = some (.cells #[.int .i64 v, .int .i64 s, .int .i64 c, .string h, .string t, .slice A l.length cap] 27 (0, 0)) := by rw [← hW, ← hb]; exact blkAlloc w _
                  have HCH : Hid (Chg (fun _ => False) w W0) := Lib.hid (by rw [← hW]; exact (Chg.refl _ w).alloc _)
                  have D := Lib.hid (Chg.refl (fun _ => False) W0)
                  have CB := Lib.hid (fun (w' : World) (cg : Chg (fun _ => False) W0 w') => (⟨blkCell (cg.obj hob (fun h => h)) 0, blkCell (cg.obj hob (fun h => h)) 1, blkCell (cg.obj hob (fun h => h)) 2, blkCell (cg.obj hob (fun h => h)) 3, blkCell (cg.obj hob (fun h => h)) 4, blkCell (cg.obj hob (fun h => h)) 5⟩ : w'.cell? ⟨b, 0, none⟩ = some (.int .i64 v) ∧ w'.cell? ⟨b, 1, none⟩ = some (.int .i64 s) ∧ w'.cell? ⟨b, 2, none⟩ = some (.int .i64 c) ∧ w'.cell? ⟨b, 3, none⟩ = some (.string h) ∧ w'.cell? ⟨b, 4, none⟩ = some (.string t) ∧ w'.cell? ⟨b, 5, none⟩ = some (.slice A l.length cap)))
                  have RL := Lib.hid (fun (w' : World) (cg : Chg (fun _ => False) W0 w') => SRow.chg HR.out (HCH.out.trans cg (fun _ h => h.elim)) (fun _ _ h => h))
                  obtain ⟨c0, c1, c2, c3, c4, c5⟩ := CB.out _ (Chg.refl _ _)
                  simp only [hW]
                  simp only [hb]
                  clear hW hb hob
                  have C3 := Lib.hid (fun w' c' => Root_calls w' A cap r l (RL.out w' c') HL.out HS.out)
                  have C4 := Lib.hid (fun w' c' => conC_calls w' A cap r l (RL.out w' c') HL.out)
                  unfold badL at hE
                  obtain ⟨K, hK⟩ : ∃ K, cntF s c = K := ⟨_, rfl⟩
                  obtain ⟨R, hR⟩ : ∃ R, rootF l = R := ⟨_, rfl⟩
                  obtain ⟨y, hy⟩ : ∃ y, l.any badC = y := ⟨_, rfl⟩
                  rw [hK] at C2 hE
                  rw [hR] at C3 hE
                  rw [hy] at C4 hE
                  have HE := Lib.hid hE
                  clear hK hR hy hE hbad hs1 hs2 hcr
                  go_wp2_with (go_at_call 19; refine (C1.out _).mono ?_; rintro e w1 ⟨rfl, he⟩; obtain rfl := he)
                  have hkE := HE.out
                  clear HE

                  by_cases k0 : K = (l.length : Int)
                  case neg =>
                    have k1 : ((l.length : Int) == K) = false := by simpa using fun h => k0 h.symm
                    rw [k1] at hkE
                    have HE := Lib.hid hkE
                    have k4 : ((l.length : Int) != K) = true := by rw [bne, k1]; rfl
                    have k5 : decide ((l.length : Int) = K) = false := decide_eq_false fun h => k0 h.symm
                    clear hkE k0
                    refine wp_region_held_drew (S := fun w' => w'.cell? ⟨b, 0, none⟩ = some (.int .i64 v) ∧ w'.cell? ⟨b, 1, none⟩ = some (.int .i64 s) ∧ w'.cell? ⟨b, 2, none⟩ = some (.int .i64 c) ∧ w'.cell? ⟨b, 3, none⟩ = some (.string h) ∧ w'.cell? ⟨b, 4, none⟩ = some (.string t) ∧ w'.cell? ⟨b, 5, none⟩ = some (.slice A l.length cap)) (by kernel_rfl) (by first | exact CB.out _ D.out | exact CB.out _ D.out.drew) (fun hHeld => ?_)
                    refine held_take 0 (some 38) ?vk0 rfl rfl (by kernel_rfl) (by kernel_rfl) (by kernel_rfl) (fun _ _ _ h => h) (by go_simp) (by assumption) ?hyk0 ?restk0
                    case hyk0 => (intro w hSw; (try dsimp only at hSw); go_simp; try with_reducible rfl)
                    (try simp only [Act.put, List.setIfInBounds_toArray, List.set_cons_zero, List.set_cons_succ])
                    refine held_take 1 (some 39) ?vk1 rfl rfl (by kernel_rfl) (by kernel_rfl) (by kernel_rfl) (fun _ _ _ h => h) (by go_simp) (by assumption) ?hyk1 ?restk1
                    case hyk1 => (intro w hSw; (try dsimp only at hSw); go_simp; try with_reducible rfl)
                    (try simp only [Act.put, List.setIfInBounds_toArray, List.set_cons_zero, List.set_cons_succ])
                    refine held_take 2 (some 40) ?vk2 rfl rfl (by kernel_rfl) (by kernel_rfl) (by kernel_rfl) (fun _ _ _ h => h) (by go_simp) (by assumption) ?hyk2 ?restk2
                    case hyk2 => (intro w hSw; (try dsimp only at hSw); go_simp; try with_reducible rfl)
                    (try simp only [Act.put, List.setIfInBounds_toArray, List.set_cons_zero, List.set_cons_succ])
                    refine held_take 3 (some 41) ?vk3 rfl rfl (by kernel_rfl) (by kernel_rfl) (by kernel_rfl) (fun _ _ _ h => h) (by go_simp) (by assumption) ?hyk3 ?restk3
                    case hyk3 => (intro w hSw; (try dsimp only at hSw); go_simp; try with_reducible rfl)
                    (try simp only [Act.put, List.setIfInBounds_toArray, List.set_cons_zero, List.set_cons_succ])
                    refine held_take 4 (some 42) ?vk4 rfl rfl (by kernel_rfl) (by kernel_rfl) (by kernel_rfl) (fun _ _ _ h => h) (by go_simp) (by assumption) ?hyk4 ?restk4
                    case hyk4 => (intro w hSw; (try dsimp only at hSw); go_simp; try with_reducible rfl)
                    (try simp only [Act.put, List.setIfInBounds_toArray, List.set_cons_zero, List.set_cons_succ])
                    refine held_take 5 (some 43) ?vk5 rfl rfl (by kernel_rfl) (by kernel_rfl) (by kernel_rfl) (fun _ _ _ h => h) (by go_simp) (by assumption) ?hyk5 ?restk5
                    case hyk5 => (intro w hSw; (try dsimp only at hSw); go_simp; try with_reducible rfl)
                    (try simp only [Act.put, List.setIfInBounds_toArray, List.set_cons_zero, List.set_cons_succ])
                    refine held_take 6 (some 44) ?vk6 rfl rfl (by kernel_rfl) (by kernel_rfl) (by kernel_rfl) (fun _ _ _ h => h) (by go_simp) (by assumption) ?hyk6 ?restk6
                    case hyk6 => (intro w hSw; (try dsimp only at hSw); go_simp; try with_reducible rfl)
                    (try simp only [Act.put, List.setIfInBounds_toArray, List.set_cons_zero, List.set_cons_succ])
                    refine wpAnyH_ready (rs := [7]) (by kernel_rfl) (by simp) ?_
                    refine AllReadyH.cons rfl (fun K hK => ?_) AllReadyH.nil
                    go_simp
                    (go_at_call 49; refine (C2.out _).mono ?_; rintro e w5 ⟨rfl, he⟩; obtain rfl := he)
                    go_wp2_with fail
                    refine hK.out _ _ (by first | exact CB.out _ D.out | exact CB.out _ D.out.drew) (fun hHeld => ?_)
                    clear hK K
                    (try simp only [Act.put, List.setIfInBounds_toArray, List.set_cons_zero, List.set_cons_succ])
                    refine held_take 8 (some 46) ?vk8 rfl rfl (by kernel_rfl) (by kernel_rfl) (by kernel_rfl) (fun _ _ _ h => h) (by go_simp) (by assumption) ?hyk8 ?restk8
                    case hyk8 => (intro w hSw; (try dsimp only at hSw); go_simp; try with_reducible rfl)
                    (try simp only [Act.put, List.setIfInBounds_toArray, List.set_cons_zero, List.set_cons_succ])
                    refine held_take 9 (some 47) ?vk9 rfl rfl (by kernel_rfl) (by kernel_rfl) (by kernel_rfl) (fun _ _ _ h => h) (by go_simp) (by assumption) ?hyk9 ?restk9
                    case hyk9 => (intro w hSw; (try dsimp only at hSw); go_simp; try with_reducible rfl)
                    (try simp only [Act.put, List.setIfInBounds_toArray, List.set_cons_zero, List.set_cons_succ])
                    refine held_skip 10 (some 48) rfl rfl (by kernel_rfl) (by kernel_rfl) (by kernel_rfl) (fun _ _ _ h => h) (by go_simp) (by assumption) ?_
                    (try simp only [Act.put, List.setIfInBounds_toArray, List.set_cons_zero, List.set_cons_succ])
                    refine held_skip 11 (some 49) rfl rfl (by kernel_rfl) (by kernel_rfl) (by kernel_rfl) (fun _ _ _ h => h) (by go_simp) (by assumption) ?_
                    (try simp only [Act.put, List.setIfInBounds_toArray, List.set_cons_zero, List.set_cons_succ])
                    refine held_skip 12 (some 50) rfl rfl (by kernel_rfl) (by kernel_rfl) (by kernel_rfl) (fun _ _ _ h => h) (by go_simp) (by assumption) ?_
                    (try simp only [Act.put, List.setIfInBounds_toArray, List.set_cons_zero, List.set_cons_succ])
                    refine held_skip 13 (some 51) rfl rfl (by kernel_rfl) (by kernel_rfl) (by kernel_rfl) (fun _ _ _ h => h) (by go_simp) (by assumption) ?_
                    (try simp only [Act.put, List.setIfInBounds_toArray, List.set_cons_zero, List.set_cons_succ])
                    refine held_skip 14 (some 52) rfl rfl (by kernel_rfl) (by kernel_rfl) (by kernel_rfl) (fun _ _ _ h => h) (by go_simp) (by assumption) ?_
                    (try simp only [Act.put, List.setIfInBounds_toArray, List.set_cons_zero, List.set_cons_succ])
                    refine held_skip 15 (some 53) rfl rfl (by kernel_rfl) (by kernel_rfl) (by kernel_rfl) (fun _ _ _ h => h) (by go_simp) (by assumption) ?_
                    (try simp only [Act.put, List.setIfInBounds_toArray, List.set_cons_zero, List.set_cons_succ])
                    refine held_take 16 (some 54) ?vk16 rfl rfl (by kernel_rfl) (by kernel_rfl) (by kernel_rfl) (fun _ _ _ h => h) (by go_simp) (by assumption) ?hyk16 ?restk16
                    case hyk16 => (intro w hSw; (try dsimp only at hSw); go_simp; try with_reducible rfl)
                    (try simp only [Act.put, List.setIfInBounds_toArray, List.set_cons_zero, List.set_cons_succ])
                    refine held_take 17 (some 55) ?vk17 rfl rfl (by kernel_rfl) (by kernel_rfl) (by kernel_rfl) (fun _ _ _ h => h) (by go_simp) (by assumption) ?hyk17 ?restk17
                    case hyk17 => (intro w hSw; (try dsimp only at hSw); go_simp; try with_reducible rfl)
                    (try simp only [Act.put, List.setIfInBounds_toArray, List.set_cons_zero, List.set_cons_succ])
                    refine held_skip 18 (some 56) rfl rfl (by kernel_rfl) (by kernel_rfl) (by kernel_rfl) (fun _ _ _ h => h) (by go_simp) (by assumption) ?_
                    (try simp only [Act.put, List.setIfInBounds_toArray, List.set_cons_zero, List.set_cons_succ])
                    refine held_skip 19 (some 57) rfl rfl (by kernel_rfl) (by kernel_rfl) (by kernel_rfl) (fun _ _ _ h => h) (by go_simp) (by assumption) ?_
                    (try simp only [Act.put, List.setIfInBounds_toArray, List.set_cons_zero, List.set_cons_succ])
                    refine held_skip 20 (some 58) rfl rfl (by kernel_rfl) (by kernel_rfl) (by kernel_rfl) (fun _ _ _ h => h) (by go_simp) (by assumption) ?_
                    (try simp only [Act.put, List.setIfInBounds_toArray, List.set_cons_zero, List.set_cons_succ])
                    refine held_take 21 (some 59) ?vk21 rfl rfl (by kernel_rfl) (by kernel_rfl) (by kernel_rfl) (fun _ _ _ h => h) (by go_simp) (by assumption) ?hyk21 ?restk21
                    case hyk21 => (intro w hSw; (try dsimp only at hSw); go_simp; try with_reducible rfl)
                    (try simp only [Act.put, List.setIfInBounds_toArray, List.set_cons_zero, List.set_cons_succ])
                    refine held_take 22 (some 37) ?vk22 rfl rfl (by kernel_rfl) (by kernel_rfl) (by kernel_rfl) (fun _ _ _ h => h) (by go_simp) (by assumption) ?hyk22 ?restk22
                    case hyk22 => (intro w hSw; (try dsimp only at hSw); go_simp; try with_reducible rfl)
                    (try simp only [Act.put, List.setIfInBounds_toArray, List.set_cons_zero, List.set_cons_succ])
                    refine wpAnyH_done (by kernel_rfl) ?_ _
                    go_wp2_with fail
                    go_ret
                    first
                      | exact ⟨by rw [HE.out]; rfl, HCH.out.trans D.out (fun _ h => h.elim)⟩
                      | exact ⟨by rw [HE.out]; rfl, HCH.out.trans D.out.drew (fun _ h => h.elim)⟩
                  case pos =>
                    subst k0
                    rw [beq_self_eq_true] at hkE
                    by_cases k2 : t = R
                    case neg =>
                      have k3 : (R.toList == t.toList) = false := by
                        cases hx : (R.toList == t.toList)
                        · rfl
                        · exact absurd ((str_eq R t).1 (by rw [hx]; rfl)).symm k2
                      have k6 : (R.toList != t.toList) = true := by rw [bne, k3]; rfl
                      rw [k3] at hkE
                      have HE := Lib.hid hkE
                      clear hkE k2
                      refine wp_region_held_drew (S := fun w' => w'.cell? ⟨b, 0, none⟩ = some (.int .i64 v) ∧ w'.cell? ⟨b, 1, none⟩ = some (.int .i64 s) ∧ w'.cell? ⟨b, 2, none⟩ = some (.int .i64 c) ∧ w'.cell? ⟨b, 3, none⟩ = some (.string h) ∧ w'.cell? ⟨b, 4, none⟩ = some (.string t) ∧ w'.cell? ⟨b, 5, none⟩ = some (.slice A l.length cap)) (by kernel_rfl) (by first | exact CB.out _ D.out | exact CB.out _ D.out.drew) (fun hHeld => ?_)
                      refine held_take 0 (some 38) ?vr0 rfl rfl (by kernel_rfl) (by kernel_rfl) (by kernel_rfl) (fun _ _ _ h => h) (by go_simp) (by assumption) ?hyr0 ?restr0
                      case hyr0 => (intro w hSw; (try dsimp only at hSw); go_simp; try with_reducible rfl)
                      (try simp only [Act.put, List.setIfInBounds_toArray, List.set_cons_zero, List.set_cons_succ])
                      refine held_take 1 (some 39) ?vr1 rfl rfl (by kernel_rfl) (by kernel_rfl) (by kernel_rfl) (fun _ _ _ h => h) (by go_simp) (by assumption) ?hyr1 ?restr1
                      case hyr1 => (intro w hSw; (try dsimp only at hSw); go_simp; try with_reducible rfl)
                      (try simp only [Act.put, List.setIfInBounds_toArray, List.set_cons_zero, List.set_cons_succ])
                      refine held_take 2 (some 40) ?vr2 rfl rfl (by kernel_rfl) (by kernel_rfl) (by kernel_rfl) (fun _ _ _ h => h) (by go_simp) (by assumption) ?hyr2 ?restr2
                      case hyr2 => (intro w hSw; (try dsimp only at hSw); go_simp; try with_reducible rfl)
                      (try simp only [Act.put, List.setIfInBounds_toArray, List.set_cons_zero, List.set_cons_succ])
                      refine held_take 3 (some 41) ?vr3 rfl rfl (by kernel_rfl) (by kernel_rfl) (by kernel_rfl) (fun _ _ _ h => h) (by go_simp) (by assumption) ?hyr3 ?restr3
                      case hyr3 => (intro w hSw; (try dsimp only at hSw); go_simp; try with_reducible rfl)
                      (try simp only [Act.put, List.setIfInBounds_toArray, List.set_cons_zero, List.set_cons_succ])
                      refine held_take 4 (some 42) ?vr4 rfl rfl (by kernel_rfl) (by kernel_rfl) (by kernel_rfl) (fun _ _ _ h => h) (by go_simp) (by assumption) ?hyr4 ?restr4
                      case hyr4 => (intro w hSw; (try dsimp only at hSw); go_simp; try with_reducible rfl)
                      (try simp only [Act.put, List.setIfInBounds_toArray, List.set_cons_zero, List.set_cons_succ])
                      refine held_take 5 (some 43) ?vr5 rfl rfl (by kernel_rfl) (by kernel_rfl) (by kernel_rfl) (fun _ _ _ h => h) (by go_simp) (by assumption) ?hyr5 ?restr5
                      case hyr5 => (intro w hSw; (try dsimp only at hSw); go_simp; try with_reducible rfl)
                      (try simp only [Act.put, List.setIfInBounds_toArray, List.set_cons_zero, List.set_cons_succ])
                      refine held_take 6 (some 44) ?vr6 rfl rfl (by kernel_rfl) (by kernel_rfl) (by kernel_rfl) (fun _ _ _ h => h) (by go_simp) (by assumption) ?hyr6 ?restr6
                      case hyr6 => (intro w hSw; (try dsimp only at hSw); go_simp; try with_reducible rfl)
                      (try simp only [Act.put, List.setIfInBounds_toArray, List.set_cons_zero, List.set_cons_succ])
                      refine wpAnyH_ready (rs := [7]) (by kernel_rfl) (by simp) ?_
                      refine AllReadyH.cons rfl (fun K hK => ?_) AllReadyH.nil
                      go_simp
                      (go_at_call 49; refine (C2.out _).mono ?_; rintro e w5 ⟨rfl, he⟩; obtain rfl := he)
                      go_wp2_with fail
                      refine hK.out _ _ (by first | exact CB.out _ D.out | exact CB.out _ D.out.drew) (fun hHeld => ?_)
                      clear hK K
                      (try simp only [Act.put, List.setIfInBounds_toArray, List.set_cons_zero, List.set_cons_succ])
                      refine held_take 8 (some 46) ?vr8 rfl rfl (by kernel_rfl) (by kernel_rfl) (by kernel_rfl) (fun _ _ _ h => h) (by go_simp) (by assumption) ?hyr8 ?restr8
                      case hyr8 => (intro w hSw; (try dsimp only at hSw); go_simp; try with_reducible rfl)
                      (try simp only [Act.put, List.setIfInBounds_toArray, List.set_cons_zero, List.set_cons_succ])
                      refine held_take 9 (some 47) ?vr9 rfl rfl (by kernel_rfl) (by kernel_rfl) (by kernel_rfl) (fun _ _ _ h => h) (by go_simp) (by assumption) ?hyr9 ?restr9
                      case hyr9 => (intro w hSw; (try dsimp only at hSw); go_simp; try with_reducible rfl)
                      (try simp only [Act.put, List.setIfInBounds_toArray, List.set_cons_zero, List.set_cons_succ])
                      refine held_take 10 (some 48) ?vr10 rfl rfl (by kernel_rfl) (by kernel_rfl) (by kernel_rfl) (fun _ _ _ h => h) (by go_simp) (by assumption) ?hyr10 ?restr10
                      case hyr10 => (intro w hSw; (try dsimp only at hSw); go_simp; try with_reducible rfl)
                      (try simp only [Act.put, List.setIfInBounds_toArray, List.set_cons_zero, List.set_cons_succ])
                      refine held_take 11 (some 49) ?vr11 rfl rfl (by kernel_rfl) (by kernel_rfl) (by kernel_rfl) (fun _ _ _ h => h) (by go_simp) (by assumption) ?hyr11 ?restr11
                      case hyr11 => (intro w hSw; (try dsimp only at hSw); go_simp; try with_reducible rfl)
                      (try simp only [Act.put, List.setIfInBounds_toArray, List.set_cons_zero, List.set_cons_succ])
                      refine held_take 13 (some 51) ?vr13 rfl rfl (by kernel_rfl) (by kernel_rfl) (by kernel_rfl) (fun _ _ _ h => h) (by go_simp) (by assumption) ?hyr13 ?restr13
                      case hyr13 => (intro w hSw; (try dsimp only at hSw); go_simp; try with_reducible rfl)
                      (try simp only [Act.put, List.setIfInBounds_toArray, List.set_cons_zero, List.set_cons_succ])
                      refine held_take 14 (some 52) ?vr14 rfl rfl (by kernel_rfl) (by kernel_rfl) (by kernel_rfl) (fun _ _ _ h => h) (by go_simp) (by assumption) ?hyr14 ?restr14
                      case hyr14 => (intro w hSw; (try dsimp only at hSw); go_simp; try with_reducible rfl)
                      (try simp only [Act.put, List.setIfInBounds_toArray, List.set_cons_zero, List.set_cons_succ])
                      refine wpAnyH_ready (rs := [12]) (by kernel_rfl) (by simp) ?_
                      refine AllReadyH.cons rfl (fun K hK => ?_) AllReadyH.nil
                      go_simp
                      (go_at_call 23; refine (C3.out _ (by first | exact D.out | exact D.out.drew)).mono ?_; rintro e w6 ⟨rfl, hg⟩; have D := Lib.hid (Chg.trans (by first | exact D.out | exact D.out.drew) hg (fun _ h => h.elim)); clear hg)
                      go_wp2_with fail
                      refine hK.out _ _ (by first | exact CB.out _ D.out | exact CB.out _ D.out.drew) (fun hHeld => ?_)
                      clear hK K
                      (try simp only [Act.put, List.setIfInBounds_toArray, List.set_cons_zero, List.set_cons_succ])
                      refine held_take 15 (some 53) ?vr15 rfl rfl (by kernel_rfl) (by kernel_rfl) (by kernel_rfl) (fun _ _ _ h => h) (by go_simp) (by assumption) ?hyr15 ?restr15
                      case hyr15 => (intro w hSw; (try dsimp only at hSw); go_simp; try with_reducible rfl)
                      (try simp only [Act.put, List.setIfInBounds_toArray, List.set_cons_zero, List.set_cons_succ])
                      refine held_take 16 (some 54) ?vr16 rfl rfl (by kernel_rfl) (by kernel_rfl) (by kernel_rfl) (fun _ _ _ h => h) (by go_simp) (by assumption) ?hyr16 ?restr16
                      case hyr16 => (intro w hSw; (try dsimp only at hSw); go_simp; try with_reducible rfl)
                      (try simp only [Act.put, List.setIfInBounds_toArray, List.set_cons_zero, List.set_cons_succ])
                      refine held_take 17 (some 55) ?vr17 rfl rfl (by kernel_rfl) (by kernel_rfl) (by kernel_rfl) (fun _ _ _ h => h) (by go_simp) (by assumption) ?hyr17 ?restr17
                      case hyr17 => (intro w hSw; (try dsimp only at hSw); go_simp; try with_reducible rfl)
                      (try simp only [Act.put, List.setIfInBounds_toArray, List.set_cons_zero, List.set_cons_succ])
                      refine held_skip 18 (some 56) rfl rfl (by kernel_rfl) (by kernel_rfl) (by kernel_rfl) (fun _ _ _ h => h) (by go_simp) (by assumption) ?_
                      (try simp only [Act.put, List.setIfInBounds_toArray, List.set_cons_zero, List.set_cons_succ])
                      refine held_skip 19 (some 57) rfl rfl (by kernel_rfl) (by kernel_rfl) (by kernel_rfl) (fun _ _ _ h => h) (by go_simp) (by assumption) ?_
                      (try simp only [Act.put, List.setIfInBounds_toArray, List.set_cons_zero, List.set_cons_succ])
                      refine held_skip 20 (some 58) rfl rfl (by kernel_rfl) (by kernel_rfl) (by kernel_rfl) (fun _ _ _ h => h) (by go_simp) (by assumption) ?_
                      (try simp only [Act.put, List.setIfInBounds_toArray, List.set_cons_zero, List.set_cons_succ])
                      refine held_take 21 (some 59) ?vr21 rfl rfl (by kernel_rfl) (by kernel_rfl) (by kernel_rfl) (fun _ _ _ h => h) (by go_simp) (by assumption) ?hyr21 ?restr21
                      case hyr21 => (intro w hSw; (try dsimp only at hSw); go_simp; try with_reducible rfl)
                      (try simp only [Act.put, List.setIfInBounds_toArray, List.set_cons_zero, List.set_cons_succ])
                      refine held_take 22 (some 37) ?vr22 rfl rfl (by kernel_rfl) (by kernel_rfl) (by kernel_rfl) (fun _ _ _ h => h) (by go_simp) (by assumption) ?hyr22 ?restr22
                      case hyr22 => (intro w hSw; (try dsimp only at hSw); go_simp; try with_reducible rfl)
                      (try simp only [Act.put, List.setIfInBounds_toArray, List.set_cons_zero, List.set_cons_succ])
                      refine wpAnyH_done (by kernel_rfl) ?_ _
                      go_wp2_with fail
                      go_ret
                      first
                        | exact ⟨by rw [HE.out]; rfl, HCH.out.trans D.out (fun _ h => h.elim)⟩
                        | exact ⟨by rw [HE.out]; rfl, HCH.out.trans D.out.drew (fun _ h => h.elim)⟩
                    case pos =>
                      subst k2
                      rw [beq_self_eq_true] at hkE
                      cases y
                      case false =>
                        have HE := Lib.hid hkE
                        clear hkE
                        go_region_held3 (fun w' => w'.cell? ⟨b, 0, none⟩ = some (.int .i64 v) ∧ w'.cell? ⟨b, 1, none⟩ = some (.int .i64 s) ∧ w'.cell? ⟨b, 2, none⟩ = some (.int .i64 c) ∧ w'.cell? ⟨b, 3, none⟩ = some (.string h) ∧ w'.cell? ⟨b, 4, none⟩ = some (.string t) ∧ w'.cell? ⟨b, 5, none⟩ = some (.slice A l.length cap)) (first | exact CB.out _ D.out | exact CB.out _ D.out.drew)
                          (first
                            | (go_at_call 49; refine (C2.out _).mono ?_; rintro e w5 ⟨rfl, he⟩; obtain rfl := he)
                            | (go_at_call 23; refine (C3.out _ (by first | exact D.out | exact D.out.drew)).mono ?_; rintro e w5 ⟨rfl, hg⟩; have D := Lib.hid (Chg.trans (by first | exact D.out | exact D.out.drew) hg (fun _ h => h.elim)); clear hg)
                            | (go_at_call 50; refine (C4.out _ (by first | exact D.out | exact D.out.drew)).mono ?_; rintro e w5 ⟨rfl, hg⟩; have D := Lib.hid (Chg.trans (by first | exact D.out | exact D.out.drew) hg (fun _ h => h.elim)); clear hg)
                            | fail "NOFIT")
                        all_goals
                          go_wp2_with fail
                          go_ret
                          first
                            | exact ⟨by rw [HE.out]; rfl, HCH.out.trans D.out (fun _ h => h.elim)⟩
                            | exact ⟨by rw [HE.out]; rfl, HCH.out.trans D.out.drew (fun _ h => h.elim)⟩
                      case true =>
                        have HE := Lib.hid hkE
                        clear hkE
                        go_region_held3 (fun w' => w'.cell? ⟨b, 0, none⟩ = some (.int .i64 v) ∧ w'.cell? ⟨b, 1, none⟩ = some (.int .i64 s) ∧ w'.cell? ⟨b, 2, none⟩ = some (.int .i64 c) ∧ w'.cell? ⟨b, 3, none⟩ = some (.string h) ∧ w'.cell? ⟨b, 4, none⟩ = some (.string t) ∧ w'.cell? ⟨b, 5, none⟩ = some (.slice A l.length cap)) (first | exact CB.out _ D.out | exact CB.out _ D.out.drew)
                          (first
                            | (go_at_call 49; refine (C2.out _).mono ?_; rintro e w5 ⟨rfl, he⟩; obtain rfl := he)
                            | (go_at_call 23; refine (C3.out _ (by first | exact D.out | exact D.out.drew)).mono ?_; rintro e w5 ⟨rfl, hg⟩; have D := Lib.hid (Chg.trans (by first | exact D.out | exact D.out.drew) hg (fun _ h => h.elim)); clear hg)
                            | (go_at_call 50; refine (C4.out _ (by first | exact D.out | exact D.out.drew)).mono ?_; rintro e w5 ⟨rfl, hg⟩; have D := Lib.hid (Chg.trans (by first | exact D.out | exact D.out.drew) hg (fun _ h => h.elim)); clear hg)
                            | fail "NOFIT")
                        all_goals
                          go_wp2_with fail
                          go_ret
                          first
                            | exact ⟨by rw [HE.out]; rfl, HCH.out.trans D.out (fun _ h => h.elim)⟩
                            | exact ⟨by rw [HE.out]; rfl, HCH.out.trans D.out.drew (fun _ h => h.elim)⟩
end Go.Proofs.YtnhdlclicjmmnaaGreat

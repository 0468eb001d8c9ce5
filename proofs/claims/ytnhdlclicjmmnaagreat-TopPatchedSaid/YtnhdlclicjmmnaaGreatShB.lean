/- (*sha.state).block: what 64 bytes make of eight words. -/
import Derived.Test.YtnhdlclicjmmnaaGreatShF
import Derived.StillTailTactics
import Derived.IntWalk
namespace Go.Proofs.YtnhdlclicjmmnaaGreat
open Go.RowKit
theorem quietS {P : Program} {f : FuncId} {args : Array Value} {w : World} {n : Nat} {v : Value}
    (h : Calls P f args (w.drewN n) fun e w' => e = .returned v ∧ w' = w.drewN n) : Calls P f args (w.drewN n) fun e w'' => e = .returned v ∧ ∃ m, w'' = w.drewN m :=
  h.mono fun _ _ ⟨he, hm⟩ => ⟨he, n, hm⟩
theorem wordsAt {w : World} {b : Nat} {T : TypeId} {ws : List Int} (h : w.heap[b]? = some (.cells (wcells ws) T (0, 0))) (j : Nat) (hj : j < ws.length) : w.cell? ⟨b, j, none⟩ = some (.int .u32 (ws.getD j 0)) := by
  rw [blkCell h, wcells_get ws j hj]
theorem freeAt {w : World} {b : Nat} {T : TypeId} {ws : List Int} (h : w.heap[b]? = some (.cells (wcells ws) T (0, 0))) (j : Nat) (hj : ws.length ≤ j) (h2 : j < 64) : w.cell? ⟨b, j, none⟩ = some (.int .u32 0) := by
  rw [blkCell h, wcells_zero ws j hj h2]
theorem wordSet {w : World} {b : Nat} {T : TypeId} {ws : List Int} (h : w.heap[b]? = some (.cells (wcells ws) T (0, 0))) (x : Int) (hl : ws.length < 64) (k : Nat) (hk : ws.length = k) : (w.setCell ⟨b, k, none⟩ (.int .u32 x)).heap[b]? = some (.cells (wcells (ws ++ [x])) T (0, 0)) := by
  subst hk
  rw [blkSet h, wcells_set ws x hl]
theorem stateAt {w : World} {b : Nat} {T : TypeId} {s : S8} (h : w.heap[b]? = some (.cells s.cells.toArray T (0, 0))) :
    w.cell? ⟨b, 0, none⟩ = some (.int .u32 s.a) ∧ w.cell? ⟨b, 1, none⟩ = some (.int .u32 s.b) ∧ w.cell? ⟨b, 2, none⟩ = some (.int .u32 s.c) ∧ w.cell? ⟨b, 3, none⟩ = some (.int .u32 s.d) ∧
    w.cell? ⟨b, 4, none⟩ = some (.int .u32 s.e) ∧ w.cell? ⟨b, 5, none⟩ = some (.int .u32 s.f) ∧ w.cell? ⟨b, 6, none⟩ = some (.int .u32 s.g) ∧ w.cell? ⟨b, 7, none⟩ = some (.int .u32 s.h) :=
  ⟨blkCell h 0, blkCell h 1, blkCell h 2, blkCell h 3, blkCell h 4, blkCell h 5, blkCell h 6, blkCell h 7⟩

set_option maxRecDepth 100000 in
set_option maxHeartbeats 4000000 in
theorem block_calls (w : World) (bs bk g off c : Nat) (v : S8) (p : List UInt8) (hv : v.ok) (hs : w.heap[bs]? = some (.cells v.cells.toArray 133 (0, 0))) (hk : w.heap[bk]? = some (.cells kcells 152 (0, 0)))
    (hp : ∀ j, j < 64 → w.cell? ⟨g, off + j, none⟩ = some (.int .u8 (byteAt p j))) :
    Calls Tryz.prog 78 #[.pointer (some ⟨bs, 0, none⟩), .pointer (some ⟨bk, 0, none⟩), .slice (some ⟨g, off, none⟩) 64 c] w fun e w' => e = .returned (.tuple #[]) ∧ w'.heap[bs]? = some (.cells (v.block p).cells.toArray 133 (0, 0)) ∧ Chg (fun k => k = bs) w w' := by
  have HS := Lib.hid hs
  have HK := Lib.hid hk
  have HP := Lib.hid hp
  have hbs := blkLt hs
  have hbk := blkLt hk
  clear hs hk hp
  have HW0 : Hid ((w.alloc (.cells (wcells []) 152)).heap[w.heap.size]? = some (.cells (wcells []) 152 (0, 0))) := Lib.hid (blkAlloc w _)
  go_enter Tryz.func78, Tryz.ntmps78
  go_wp2
  go_loopw [24] (fun v wx => ∃ k : Nat, k ≤ 16 ∧ v = .int .i64 k ∧ HD (wx.heap[w.heap.size]? = some (.cells (wcells (sch p k)) 152 (0, 0))) ∧ HD (Chg (fun _ => False) w wx)) (fun v _ => 16 - (intOf v).toNat)
  case atStart => exact ⟨0, Nat.zero_le _, rfl, ⟨HW0.out⟩, ⟨(Chg.refl _ w).alloc _⟩⟩
  case round =>
    clear HW0
    obtain ⟨k, hk, rfl, HW, GG⟩ := hrel
    by_cases hlt : k < 16
    · have h0 := cellChg (HP.out (4 * k) (by omega)) GG.out (fun h => h)
      have h1 := cellChg (HP.out (4 * k + 1) (by omega)) GG.out (fun h => h)
      have h2 := cellChg (HP.out (4 * k + 2) (by omega)) GG.out (fun h => h)
      have h3 := cellChg (HP.out (4 * k + 3) (by omega)) GG.out (fun h => h)
      have r0 := byteAt_range p (4 * k)
      have r1 := byteAt_range p (4 * k + 1)
      have r2 := byteAt_range p (4 * k + 2)
      have r3 := byteAt_range p (4 * k + 3)
      have hsl := sch_low p k hlt
      have HSL := Lib.hid hsl
      clear hsl
      have f0 := freeAt HW.out k (by rw [sch_len]; omega) (by omega)
      have f1 := blkFree HW.out k
      have hwl := blkLt HW.out
      obtain ⟨n0, e0⟩ : ∃ n, byteAt p (4 * k) = n := ⟨_, rfl⟩
      obtain ⟨n1, e1⟩ : ∃ n, byteAt p (4 * k + 1) = n := ⟨_, rfl⟩
      obtain ⟨n2, e2⟩ : ∃ n, byteAt p (4 * k + 2) = n := ⟨_, rfl⟩
      obtain ⟨n3, e3⟩ : ∃ n, byteAt p (4 * k + 3) = n := ⟨_, rfl⟩
      rw [e0] at h0 r0
      rw [e1] at h1 r1
      rw [e2] at h2 r2
      rw [e3] at h3 r3
      rw [e0, e1, e2, e3] at HSL
      clear e0 e1 e2 e3
      have hk1 : 4 * (k : Int) < 64 := by omega
      have hk2 : 4 * (k : Int) + 1 < 64 := by omega
      have hk3 : 4 * (k : Int) + 2 < 64 := by omega
      have hk4 : 4 * (k : Int) + 3 < 64 := by omega
      have hk5 : (k : Int) < 64 := by omega
      have hq0 : (0 : Int) ≤ 4 * (k : Int) := by omega
      have hq1 : (0 : Int) ≤ 4 * (k : Int) + 1 := by omega
      have hq2 : (0 : Int) ≤ 4 * (k : Int) + 2 := by omega
      have hq3 : (0 : Int) ≤ 4 * (k : Int) + 3 := by omega
      have v0 : IntKind.i64.wrap (4 * (k : Int)) = 4 * (k : Int) := IntWalk.i64_in _ (by omega)
      have v1 : IntKind.i64.wrap (4 * (k : Int) + 1) = 4 * (k : Int) + 1 := IntWalk.i64_in _ (by omega)
      have v2 : IntKind.i64.wrap (4 * (k : Int) + 2) = 4 * (k : Int) + 2 := IntWalk.i64_in _ (by omega)
      have v3 : IntKind.i64.wrap (4 * (k : Int) + 3) = 4 * (k : Int) + 3 := IntWalk.i64_in _ (by omega)
      have t0 : (4 * (k : Int)).toNat = 4 * k := by omega
      have t1 : (4 * (k : Int) + 1).toNat = 4 * k + 1 := by omega
      have t2 : (4 * (k : Int) + 2).toNat = 4 * k + 2 := by omega
      have t3 : (4 * (k : Int) + 3).toNat = 4 * k + 3 := by omega
      have t4 : (k : Int).toNat = k := by omega
      go_wp2_with fail
      go_still_tail 34, (by kernel_rfl)
      change wpList _ _ _ _ _ wr.drew
      clear v0 v1 v2 v3
      go_wp2
      exact ⟨⟨k + 1, by omega, by go_num, ⟨by rw [HSL.out]; exact wordSet HW.out _ (by rw [sch_len]; omega) k (sch_len p k)⟩, ⟨(GG.out.setCell (p := ⟨w.heap.size, k, none⟩) (.inr (Nat.le_refl _)) _).drew⟩⟩, by simp [intOf]; omega⟩
    · obtain rfl : k = 16 := by omega
      obtain ⟨w1, rfl⟩ : ∃ w1, w1 = wr := ⟨_, rfl⟩
      rw [show ((16 : Nat) : Int) = 16 from rfl]
      go_wp2
      go_loopw [8] (fun v wx => ∃ k : Nat, 16 ≤ k ∧ k ≤ 64 ∧ v = .int .i64 k ∧ HD (wx.heap[w.heap.size]? = some (.cells (wcells (sch p k)) 152 (0, 0))) ∧ HD (Chg (fun _ => False) w wx)) (fun v _ => 64 - (intOf v).toNat)
      case atStart => exact ⟨16, by omega, by omega, rfl, HW, GG⟩
      case round =>
        clear HW GG
        obtain ⟨k, hk16, hk, rfl, HW, GG⟩ := hrel
        by_cases hlt : k < 64
        · obtain ⟨w2, rfl⟩ : ∃ w2, w2 = wr := ⟨_, rfl⟩
          have h15 := wordsAt HW.out (k - 15) (by rw [sch_len]; omega)
          have h2 := wordsAt HW.out (k - 2) (by rw [sch_len]; omega)
          have h16 := wordsAt HW.out (k - 16) (by rw [sch_len]; omega)
          have h7 := wordsAt HW.out (k - 7) (by rw [sch_len]; omega)
          have h0 := freeAt HW.out k (by rw [sch_len]; omega) (by omega)
          have hf := blkFree HW.out k
          have hwl := blkLt HW.out
          have HSL := Lib.hid (sch_high p k hk16)
          obtain ⟨a15, b15⟩ := sch_get p k (k - 15)
          obtain ⟨a2, b2⟩ := sch_get p k (k - 2)
          obtain ⟨a16, b16⟩ := sch_get p k (k - 16)
          obtain ⟨a7, b7⟩ := sch_get p k (k - 7)
          obtain ⟨n15, e15⟩ : ∃ n, (sch p k).getD (k - 15) 0 = n := ⟨_, rfl⟩
          obtain ⟨n2, e2⟩ : ∃ n, (sch p k).getD (k - 2) 0 = n := ⟨_, rfl⟩
          obtain ⟨n16, e16⟩ : ∃ n, (sch p k).getD (k - 16) 0 = n := ⟨_, rfl⟩
          obtain ⟨n7, e7⟩ : ∃ n, (sch p k).getD (k - 7) 0 = n := ⟨_, rfl⟩
          rw [e15] at h15 a15 b15
          rw [e2] at h2 a2 b2
          rw [e16] at h16 a16 b16
          rw [e7] at h7 a7 b7
          rw [e15, e2, e16, e7] at HSL
          clear e15 e2 e16 e7
          have v15 : IntKind.i64.wrap ((k : Int) - 15) = (k : Int) - 15 := IntWalk.i64_in _ (by omega)
          have v2 : IntKind.i64.wrap ((k : Int) - 2) = (k : Int) - 2 := IntWalk.i64_in _ (by omega)
          have v16 : IntKind.i64.wrap ((k : Int) - 16) = (k : Int) - 16 := IntWalk.i64_in _ (by omega)
          have v7 : IntKind.i64.wrap ((k : Int) - 7) = (k : Int) - 7 := IntWalk.i64_in _ (by omega)
          have t15 : ((k : Int) - 15).toNat = k - 15 := by omega
          have t2 : ((k : Int) - 2).toNat = k - 2 := by omega
          have t16 : ((k : Int) - 16).toNat = k - 16 := by omega
          have t7 : ((k : Int) - 7).toNat = k - 7 := by omega
          have t0 : (k : Int).toNat = k := by omega
          have p15 : (0 : Int) ≤ (k : Int) - 15 := by omega
          have p2 : (0 : Int) ≤ (k : Int) - 2 := by omega
          have p16 : (0 : Int) ≤ (k : Int) - 16 := by omega
          have p7 : (0 : Int) ≤ (k : Int) - 7 := by omega
          have p0 : (0 : Int) ≤ (k : Int) := by omega
          have r15 : (15 : Int) ≤ (k : Int) := by omega
          have r2 : (2 : Int) ≤ (k : Int) := by omega
          have r16 : (16 : Int) ≤ (k : Int) := by omega
          have r7 : (7 : Int) ≤ (k : Int) := by omega
          have q15 : (k : Int) - 15 < 64 := by omega
          have q2 : (k : Int) - 2 < 64 := by omega
          have q16 : (k : Int) - 16 < 64 := by omega
          have q7 : (k : Int) - 7 < 64 := by omega
          have q0 : (k : Int) < 64 := by omega
          go_wp2_with fail
          go_quiet (fail)
          obtain ⟨w3, hw3⟩ : ∃ w3, w2.drewN nq = w3 := ⟨_, rfl⟩
          rw [hw3]
          have g16 : w3.cell? ⟨w.heap.size, k - 16, none⟩ = some (.int .u32 n16) := by rw [← hw3]; exact h16
          have g7 : w3.cell? ⟨w.heap.size, k - 7, none⟩ = some (.int .u32 n7) := by rw [← hw3]; exact h7
          have g0 : w3.cell? ⟨w.heap.size, k, none⟩ = some (.int .u32 0) := by rw [← hw3]; exact h0
          have gf : w3.frozen? ⟨w.heap.size, k, none⟩ = false := by rw [← hw3]; exact hf
          have HW3 : Hid (w3.heap[w.heap.size]? = some (.cells (wcells (sch p k)) 152 (0, 0))) := Lib.hid (by rw [← hw3]; exact HW.out)
          have GG3 : Hid (Chg (fun _ => False) w w3) := Lib.hid (by rw [← hw3]; exact GG.out.drewN _)
          clear h15 h2 h16 h7 h0 hf hw3
          go_wp2_with fail
          refine wp_region_still_tail 28 (by kernel_rfl) (by kernel_rfl) ?_
          simp only [List.take_succ_cons, List.take_zero, List.drop_succ_cons, List.drop_zero]
          repeat still_step
          still_call (turned_7 _ _ a15 b15)
          repeat still_step
          still_call (turned_18 _ _ a15 b15)
          repeat still_step
          still_call (turned_17 _ _ a2 b2)
          repeat still_step
          still_call (turned_19 _ _ a2 b2)
          repeat still_step
          refine wpStill_nil ?_
          change wpList _ _ _ _ _ w3.drew
          clear v15 v2 v16 v7
          go_wp2
          exact ⟨⟨k + 1, by omega, by omega, by go_num, ⟨by rw [HSL.out]; exact wordSet HW3.out _ (by rw [sch_len]; omega) k (sch_len p k)⟩, ⟨(GG3.out.setCell (p := ⟨w.heap.size, k, none⟩) (.inr (Nat.le_refl _)) _).drew⟩⟩, by simp [intOf]; omega⟩
        · obtain rfl : k = 64 := by omega
          obtain ⟨w2, rfl⟩ : ∃ w2, w2 = wr := ⟨_, rfl⟩
          rw [show ((64 : Nat) : Int) = 64 from rfl]
          clear hk hk16 hlt
          have HS2 := Lib.hid (GG.out.obj HS.out (fun h => h))
          obtain ⟨s0, s1, s2, s3, s4, s5, s6, s7⟩ := stateAt HS2.out
          go_wp2_with fail
          go_quiet (fail)
          clear s0 s1 s2 s3 s4 s5 s6 s7
          obtain ⟨w3, hw3⟩ : ∃ w3, w2.drewN nq = w3 := ⟨_, rfl⟩
          rw [hw3]
          have HS3 : Hid (w3.heap[bs]? = some (.cells v.cells.toArray 133 (0, 0))) := Lib.hid (by rw [← hw3]; exact HS2.out)
          have HW3 : Hid (w3.heap[w.heap.size]? = some (.cells (wcells (sch p 64)) 152 (0, 0))) := Lib.hid (by rw [← hw3]; exact HW.out)
          have GG3 : Hid (Chg (fun _ => False) w w3) := Lib.hid (by rw [← hw3]; exact GG.out.drewN _)
          have HK3 : Hid (w3.heap[bk]? = some (.cells kcells 152 (0, 0))) := Lib.hid (GG3.out.obj HK.out (fun h => h))
          clear hw3 HS2 HW GG
          go_wp2_with fail
          go_loopw [11, 12, 13, 14, 15, 16, 17, 18, 136] (fun va vb vc vd ve vf vg vh i wx => ∃ (t : S8) (k : Nat), k ≤ 64 ∧ i = .int .i64 k ∧ va = .int .u32 t.a ∧ vb = .int .u32 t.b ∧ vc = .int .u32 t.c ∧ vd = .int .u32 t.d ∧ ve = .int .u32 t.e ∧ vf = .int .u32 t.f ∧ vg = .int .u32 t.g ∧ vh = .int .u32 t.h ∧ HD (t = v.rnds kons (sch p 64) k) ∧ HD (∃ n, wx = w3.drewN n)) (fun _ _ _ _ _ _ _ _ i _ => 64 - (intOf i).toNat)
          case atStart => exact ⟨v, 0, Nat.zero_le _, rfl, rfl, rfl, rfl, rfl, rfl, rfl, rfl, rfl, ⟨rfl⟩, ⟨0, rfl⟩⟩
          case round =>
            obtain ⟨⟨xa, xb, xc, xd, xe, xf, xg, xh⟩, k, hk, rfl, rfl, rfl, rfl, rfl, rfl, rfl, rfl, rfl, HT, HX⟩ := hrel
            simp only
            obtain ⟨w4, rfl⟩ : ∃ w4, w4 = wr := ⟨_, rfl⟩
            obtain ⟨⟨a0, a1⟩, _, _, _, ⟨e0, e1⟩, _, _, _⟩ : (S8.mk xa xb xc xd xe xf xg xh).ok := by rw [HT.out]; exact S8.rnds_ok hv _ _ _
            simp only at a0 a1 e0 e1
            by_cases hlt : k < 64
            · have hkk : w4.cell? ⟨bk, k, none⟩ = some (.int .u32 (kons.getD k 0)) := by
                obtain ⟨n, hn⟩ := HX.out
                rw [hn, World.cell?_drewN, blkCell HK3.out, kcells_get k hlt]
              have hww : w4.cell? ⟨w.heap.size, k, none⟩ = some (.int .u32 ((sch p 64).getD k 0)) := by
                obtain ⟨n, hn⟩ := HX.out
                rw [hn, World.cell?_drewN]
                exact wordsAt HW3.out k (by rw [sch_len]; exact hlt)
              have HR : Hid (v.rnds kons (sch p 64) (k + 1) = (S8.mk xa xb xc xd xe xf xg xh).rnd (kons.getD k 0) ((sch p 64).getD k 0)) := Lib.hid (by rw [HT.out]; rfl)
              obtain ⟨kk, ek⟩ : ∃ n, kons.getD k 0 = n := ⟨_, rfl⟩
              obtain ⟨ww, ew⟩ : ∃ n, (sch p 64).getD k 0 = n := ⟨_, rfl⟩
              rw [ek] at hkk HR
              rw [ew] at hww HR
              clear ek ew
              have t0 : (k : Int).toNat = k := by omega
              have p0 : (0 : Int) ≤ (k : Int) := by omega
              have q0 : (k : Int) < 64 := by omega
              go_wp2_with fail
              go_quiet ((go_at_call 100; exact quietS (turned_any _ _ _ e0 e1 (by decide))))
              go_wp2_with (go_at_call 100; refine (turned_any _ _ _ a0 a1 (by decide)).mono ?_; rintro er w5 ⟨rfl, rfl⟩)
              exact ⟨⟨(S8.mk xa xb xc xd xe xf xg xh).rnd kk ww, k + 1, by omega, by go_num, rfl, rfl, rfl, rfl, rfl, rfl, rfl, rfl, ⟨HR.out.symm⟩, ⟨by obtain ⟨n, hn⟩ := HX.out; rw [hn, World.drewN_drewN]; exact ⟨_, rfl⟩⟩⟩, by simp [intOf]; omega⟩
            · obtain rfl : k = 64 := by omega
              rw [show ((64 : Nat) : Int) = 64 from rfl]
              have HB : Hid (v.add (S8.mk xa xb xc xd xe xf xg xh) = v.block p) := Lib.hid (by rw [HT.out]; rfl)
              have HS4 : Hid (w4.heap[bs]? = some (.cells v.cells.toArray 133 (0, 0))) := Lib.hid (by obtain ⟨n, hn⟩ := HX.out; rw [hn]; exact HS3.out)
              have GG4 : Hid (Chg (fun _ => False) w w4) := Lib.hid (by obtain ⟨n, hn⟩ := HX.out; rw [hn]; exact GG3.out.drewN _)
              clear HT HX hk hlt HW3 HK3 GG3 HS3 a0 a1 e0 e1
              go_wp2_with fail
              go_loopw [210] (fun i wx => ∃ k : Nat, k ≤ 8 ∧ i = .int .i64 k ∧ HD (wx.heap[bs]? = some (.cells (S8.mid v (S8.mk xa xb xc xd xe xf xg xh) k) 133 (0, 0))) ∧ HD (Chg (fun k => k = bs) w wx)) (fun i _ => 8 - (intOf i).toNat)
              case atStart => exact ⟨0, Nat.zero_le _, rfl, ⟨HS4.out⟩, ⟨GG4.out.mono fun _ h => h.elim⟩⟩
              case round =>
                obtain ⟨k, hk, rfl, HM, GM⟩ := hrel
                by_cases hlt : k < 8
                · have hmg := S8.mid_get v (S8.mk xa xb xc xd xe xf xg xh) k hlt
                  have c0 := blkCell HM.out k
                  have f0 := blkFree HM.out k
                  rw [hmg] at c0
                  clear hmg
                  obtain rfl | rfl | rfl | rfl | rfl | rfl | rfl | rfl : k = 0 ∨ k = 1 ∨ k = 2 ∨ k = 3 ∨ k = 4 ∨ k = 5 ∨ k = 6 ∨ k = 7 := by omega
                  · have ix : ∀ w, (Instr.index 132 (.agg #[.int .u32 xa, .int .u32 xb, .int .u32 xc, .int .u32 xd, .int .u32 xe, .int .u32 xf, .int .u32 xg, .int .u32 xh]) (.int .i64 0)).run Tryz.prog w = .ok (.int .u32 xa) w := fun _ => by kernel_rfl
                    replace c0 : wr.cell? ⟨bs, 0, none⟩ = some (.int .u32 v.a) := c0
                    rw [show ((0 : Nat) : Int) = 0 from rfl]
                    go_wp2_with fail
                    go_region
                    go_wp2
                    exact ⟨⟨1, by omega, by go_num, ⟨by have h := blkSet HM.out 0 (.int .u32 ((v.a + xa) % 4294967296)); rw [S8.mid_step v (S8.mk xa xb xc xd xe xf xg xh) 0 (.int .u32 ((v.a + xa) % 4294967296)) rfl] at h; exact h⟩, ⟨(GM.out.setCell (p := ⟨bs, 0, none⟩) (.inl rfl) _).drew⟩⟩, by simp [intOf]⟩
                  · have ix : ∀ w, (Instr.index 132 (.agg #[.int .u32 xa, .int .u32 xb, .int .u32 xc, .int .u32 xd, .int .u32 xe, .int .u32 xf, .int .u32 xg, .int .u32 xh]) (.int .i64 1)).run Tryz.prog w = .ok (.int .u32 xb) w := fun _ => by kernel_rfl
                    replace c0 : wr.cell? ⟨bs, 1, none⟩ = some (.int .u32 v.b) := c0
                    rw [show ((1 : Nat) : Int) = 1 from rfl]
                    go_wp2_with fail
                    go_region
                    go_wp2
                    exact ⟨⟨2, by omega, by go_num, ⟨by have h := blkSet HM.out 1 (.int .u32 ((v.b + xb) % 4294967296)); rw [S8.mid_step v (S8.mk xa xb xc xd xe xf xg xh) 1 (.int .u32 ((v.b + xb) % 4294967296)) rfl] at h; exact h⟩, ⟨(GM.out.setCell (p := ⟨bs, 1, none⟩) (.inl rfl) _).drew⟩⟩, by simp [intOf]⟩
                  · have ix : ∀ w, (Instr.index 132 (.agg #[.int .u32 xa, .int .u32 xb, .int .u32 xc, .int .u32 xd, .int .u32 xe, .int .u32 xf, .int .u32 xg, .int .u32 xh]) (.int .i64 2)).run Tryz.prog w = .ok (.int .u32 xc) w := fun _ => by kernel_rfl
                    replace c0 : wr.cell? ⟨bs, 2, none⟩ = some (.int .u32 v.c) := c0
                    rw [show ((2 : Nat) : Int) = 2 from rfl]
                    go_wp2_with fail
                    go_region
                    go_wp2
                    exact ⟨⟨3, by omega, by go_num, ⟨by have h := blkSet HM.out 2 (.int .u32 ((v.c + xc) % 4294967296)); rw [S8.mid_step v (S8.mk xa xb xc xd xe xf xg xh) 2 (.int .u32 ((v.c + xc) % 4294967296)) rfl] at h; exact h⟩, ⟨(GM.out.setCell (p := ⟨bs, 2, none⟩) (.inl rfl) _).drew⟩⟩, by simp [intOf]⟩
                  · have ix : ∀ w, (Instr.index 132 (.agg #[.int .u32 xa, .int .u32 xb, .int .u32 xc, .int .u32 xd, .int .u32 xe, .int .u32 xf, .int .u32 xg, .int .u32 xh]) (.int .i64 3)).run Tryz.prog w = .ok (.int .u32 xd) w := fun _ => by kernel_rfl
                    replace c0 : wr.cell? ⟨bs, 3, none⟩ = some (.int .u32 v.d) := c0
                    rw [show ((3 : Nat) : Int) = 3 from rfl]
                    go_wp2_with fail
                    go_region
                    go_wp2
                    exact ⟨⟨4, by omega, by go_num, ⟨by have h := blkSet HM.out 3 (.int .u32 ((v.d + xd) % 4294967296)); rw [S8.mid_step v (S8.mk xa xb xc xd xe xf xg xh) 3 (.int .u32 ((v.d + xd) % 4294967296)) rfl] at h; exact h⟩, ⟨(GM.out.setCell (p := ⟨bs, 3, none⟩) (.inl rfl) _).drew⟩⟩, by simp [intOf]⟩
                  · have ix : ∀ w, (Instr.index 132 (.agg #[.int .u32 xa, .int .u32 xb, .int .u32 xc, .int .u32 xd, .int .u32 xe, .int .u32 xf, .int .u32 xg, .int .u32 xh]) (.int .i64 4)).run Tryz.prog w = .ok (.int .u32 xe) w := fun _ => by kernel_rfl
                    replace c0 : wr.cell? ⟨bs, 4, none⟩ = some (.int .u32 v.e) := c0
                    rw [show ((4 : Nat) : Int) = 4 from rfl]
                    go_wp2_with fail
                    go_region
                    go_wp2
                    exact ⟨⟨5, by omega, by go_num, ⟨by have h := blkSet HM.out 4 (.int .u32 ((v.e + xe) % 4294967296)); rw [S8.mid_step v (S8.mk xa xb xc xd xe xf xg xh) 4 (.int .u32 ((v.e + xe) % 4294967296)) rfl] at h; exact h⟩, ⟨(GM.out.setCell (p := ⟨bs, 4, none⟩) (.inl rfl) _).drew⟩⟩, by simp [intOf]⟩
                  · have ix : ∀ w, (Instr.index 132 (.agg #[.int .u32 xa, .int .u32 xb, .int .u32 xc, .int .u32 xd, .int .u32 xe, .int .u32 xf, .int .u32 xg, .int .u32 xh]) (.int .i64 5)).run Tryz.prog w = .ok (.int .u32 xf) w := fun _ => by kernel_rfl
                    replace c0 : wr.cell? ⟨bs, 5, none⟩ = some (.int .u32 v.f) := c0
                    rw [show ((5 : Nat) : Int) = 5 from rfl]
                    go_wp2_with fail
                    go_region
                    go_wp2
                    exact ⟨⟨6, by omega, by go_num, ⟨by have h := blkSet HM.out 5 (.int .u32 ((v.f + xf) % 4294967296)); rw [S8.mid_step v (S8.mk xa xb xc xd xe xf xg xh) 5 (.int .u32 ((v.f + xf) % 4294967296)) rfl] at h; exact h⟩, ⟨(GM.out.setCell (p := ⟨bs, 5, none⟩) (.inl rfl) _).drew⟩⟩, by simp [intOf]⟩
                  · have ix : ∀ w, (Instr.index 132 (.agg #[.int .u32 xa, .int .u32 xb, .int .u32 xc, .int .u32 xd, .int .u32 xe, .int .u32 xf, .int .u32 xg, .int .u32 xh]) (.int .i64 6)).run Tryz.prog w = .ok (.int .u32 xg) w := fun _ => by kernel_rfl
                    replace c0 : wr.cell? ⟨bs, 6, none⟩ = some (.int .u32 v.g) := c0
                    rw [show ((6 : Nat) : Int) = 6 from rfl]
                    go_wp2_with fail
                    go_region
                    go_wp2
                    exact ⟨⟨7, by omega, by go_num, ⟨by have h := blkSet HM.out 6 (.int .u32 ((v.g + xg) % 4294967296)); rw [S8.mid_step v (S8.mk xa xb xc xd xe xf xg xh) 6 (.int .u32 ((v.g + xg) % 4294967296)) rfl] at h; exact h⟩, ⟨(GM.out.setCell (p := ⟨bs, 6, none⟩) (.inl rfl) _).drew⟩⟩, by simp [intOf]⟩
                  · have ix : ∀ w, (Instr.index 132 (.agg #[.int .u32 xa, .int .u32 xb, .int .u32 xc, .int .u32 xd, .int .u32 xe, .int .u32 xf, .int .u32 xg, .int .u32 xh]) (.int .i64 7)).run Tryz.prog w = .ok (.int .u32 xh) w := fun _ => by kernel_rfl
                    replace c0 : wr.cell? ⟨bs, 7, none⟩ = some (.int .u32 v.h) := c0
                    rw [show ((7 : Nat) : Int) = 7 from rfl]
                    go_wp2_with fail
                    go_region
                    go_wp2
                    exact ⟨⟨8, by omega, by go_num, ⟨by have h := blkSet HM.out 7 (.int .u32 ((v.h + xh) % 4294967296)); rw [S8.mid_step v (S8.mk xa xb xc xd xe xf xg xh) 7 (.int .u32 ((v.h + xh) % 4294967296)) rfl] at h; exact h⟩, ⟨(GM.out.setCell (p := ⟨bs, 7, none⟩) (.inl rfl) _).drew⟩⟩, by simp [intOf]⟩
                · obtain rfl : k = 8 := by omega
                  rw [show ((8 : Nat) : Int) = 8 from rfl]
                  go_wp2
                  go_end0
                  exact ⟨rfl, by rw [← HB.out]; exact HM.out, GM.out⟩
end Go.Proofs.YtnhdlclicjmmnaaGreat

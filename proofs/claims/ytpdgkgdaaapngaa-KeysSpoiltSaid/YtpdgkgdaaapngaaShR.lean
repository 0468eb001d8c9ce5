/- ostlerref01.block: what 64 bytes make of eight words. -/
import Derived.Test.YtpdgkgdaaapngaaShT
import Derived.Test.YtpdgkgdaaapngaaQt
import Derived.StillTailTactics
import Derived.IntWalk
namespace Go.Proofs.Ytpdgkgdaaapngaa
open Go.RowKit
theorem quietR {P : Program} {f : FuncId} {args : Array Value} {w : World} {n : Nat} {v : Value}
    (h : Calls P f args (w.drewN n) fun e w' => e = .returned v ∧ ∃ m, w' = (w.drewN n).drewN m) : Calls P f args (w.drewN n) fun e w'' => e = .returned v ∧ ∃ m, w'' = w.drewN m :=
  h.mono fun _ _ ⟨he, m, hm⟩ => ⟨he, n + m, by rw [hm, World.drewN_drewN]⟩
/-- Three blocks made one behind the other: what they hold. -/
theorem three (w : World) (c1 c2 c3 : Array Value) (t1 t2 t3 : TypeId) :
    (((w.alloc (.cells c1 t1)).alloc (.cells c2 t2)).alloc (.cells c3 t3)).heap[w.heap.size]? = some (.cells c1 t1 (0, 0)) ∧ (((w.alloc (.cells c1 t1)).alloc (.cells c2 t2)).alloc (.cells c3 t3)).heap[w.heap.size + 1]? = some (.cells c2 t2 (0, 0)) ∧
    (((w.alloc (.cells c1 t1)).alloc (.cells c2 t2)).alloc (.cells c3 t3)).heap[w.heap.size + 2]? = some (.cells c3 t3 (0, 0)) := by
  have h1 := blkAlloc w (.cells c1 t1)
  have h2 := blkAlloc (w.alloc (.cells c1 t1)) (.cells c2 t2)
  have h3 := blkAlloc ((w.alloc (.cells c1 t1)).alloc (.cells c2 t2)) (.cells c3 t3)
  rw [show (w.alloc (.cells c1 t1)).heap.size = w.heap.size + 1 from by simp] at h2
  rw [show ((w.alloc (.cells c1 t1)).alloc (.cells c2 t2)).heap.size = w.heap.size + 2 from by simp] at h3
  have k1 := ((Chg.refl (fun _ => False) (w.alloc (.cells c1 t1))).alloc (.cells c2 t2)).alloc (.cells c3 t3)
  have k2 := (Chg.refl (fun _ => False) ((w.alloc (.cells c1 t1)).alloc (.cells c2 t2))).alloc (.cells c3 t3)
  exact ⟨k1.obj h1 (fun h => h), k2.obj h2 (fun h => h), h3⟩

theorem set8 {w : World} {b : Nat} {T : TypeId} {s : S8} (h : w.heap[b]? = some (.cells s.cells.toArray T (0, 0))) (t : S8) :
    ((((((((w.setCell ⟨b, 0, none⟩ (.int .u32 t.a)).setCell ⟨b, 1, none⟩ (.int .u32 t.b)).setCell ⟨b, 2, none⟩ (.int .u32 t.c)).setCell ⟨b, 3, none⟩ (.int .u32 t.d)).setCell ⟨b, 4, none⟩ (.int .u32 t.e)).setCell ⟨b, 5, none⟩ (.int .u32 t.f)).setCell ⟨b, 6, none⟩ (.int .u32 t.g)).setCell ⟨b, 7, none⟩ (.int .u32 t.h)).heap[b]? = some (.cells t.cells.toArray T (0, 0)) ∧
    Chg (fun k => k = b) w ((((((((w.setCell ⟨b, 0, none⟩ (.int .u32 t.a)).setCell ⟨b, 1, none⟩ (.int .u32 t.b)).setCell ⟨b, 2, none⟩ (.int .u32 t.c)).setCell ⟨b, 3, none⟩ (.int .u32 t.d)).setCell ⟨b, 4, none⟩ (.int .u32 t.e)).setCell ⟨b, 5, none⟩ (.int .u32 t.f)).setCell ⟨b, 6, none⟩ (.int .u32 t.g)).setCell ⟨b, 7, none⟩ (.int .u32 t.h)) := by
  refine ⟨?_, ?_⟩
  · have h8 := blkSet (blkSet (blkSet (blkSet (blkSet (blkSet (blkSet (blkSet h 0 (.int .u32 t.a)) 1 (.int .u32 t.b)) 2 (.int .u32 t.c)) 3 (.int .u32 t.d)) 4 (.int .u32 t.e)) 5 (.int .u32 t.f)) 6 (.int .u32 t.g)) 7 (.int .u32 t.h)
    simpa [S8.cells] using h8
  · have c0 := Chg.refl (fun k => k = b) w
    have c1 := c0.setCell (p := ⟨b, 0, none⟩) (.inl rfl) (.int .u32 t.a)
    have c2 := c1.setCell (p := ⟨b, 1, none⟩) (.inl rfl) (.int .u32 t.b)
    have c3 := c2.setCell (p := ⟨b, 2, none⟩) (.inl rfl) (.int .u32 t.c)
    have c4 := c3.setCell (p := ⟨b, 3, none⟩) (.inl rfl) (.int .u32 t.d)
    have c5 := c4.setCell (p := ⟨b, 4, none⟩) (.inl rfl) (.int .u32 t.e)
    have c6 := c5.setCell (p := ⟨b, 5, none⟩) (.inl rfl) (.int .u32 t.f)
    have c7 := c6.setCell (p := ⟨b, 6, none⟩) (.inl rfl) (.int .u32 t.g)
    have c8 := c7.setCell (p := ⟨b, 7, none⟩) (.inl rfl) (.int .u32 t.h)
    exact c8
theorem cells_words (s : S8) (k : Nat) (hk : k < 8) : s.cells[k]? = some (.int .u32 (s.words.getD k 0)) := by
  obtain rfl | rfl | rfl | rfl | rfl | rfl | rfl | rfl : k = 0 ∨ k = 1 ∨ k = 2 ∨ k = 3 ∨ k = 4 ∨ k = 5 ∨ k = 6 ∨ k = 7 := by omega
  all_goals rfl
theorem add_words (s t : S8) (k : Nat) (hk : k < 8) : (s.add t).words.getD k 0 = (s.words.getD k 0 + t.words.getD k 0) % 4294967296 := by
  obtain rfl | rfl | rfl | rfl | rfl | rfl | rfl | rfl : k = 0 ∨ k = 1 ∨ k = 2 ∨ k = 3 ∨ k = 4 ∨ k = 5 ∨ k = 6 ∨ k = 7 := by omega
  all_goals rfl
/-- A round, the sums taken together. -/
def S8.rnd2 (s : S8) (k w : Int) : S8 := ⟨(s.h + bg1 s.e + chF s.e s.f s.g + k + w + (bg0 s.a + mjF s.a s.b s.c)) % 4294967296, s.a, s.b, s.c, (s.d + (s.h + bg1 s.e + chF s.e s.f s.g + k + w)) % 4294967296, s.e, s.f, s.g⟩
theorem S8.rnd_two (s : S8) (k w : Int) : s.rnd k w = s.rnd2 k w := by
  have h1 : ∀ x y : Int, (x % 4294967296 + y % 4294967296) % 4294967296 = (x + y) % 4294967296 := fun x y => by omega
  have h2 : ∀ x y : Int, (x + y % 4294967296) % 4294967296 = (x + y) % 4294967296 := fun x y => by omega
  unfold S8.rnd S8.rnd2 newA newE
  rw [h1, h2]
/-- The three boxes of the reference's block. -/
structure RB (w wx : World) (v : S8) (ws : List Int) : Prop where
  hv : wx.heap[w.heap.size]? = some (.cells v.cells.toArray 131 (0, 0))
  hz : wx.heap[w.heap.size + 1]? = some (.cells #[.int .u32 0, .int .u32 0, .int .u32 0, .int .u32 0, .int .u32 0, .int .u32 0, .int .u32 0, .int .u32 0] 131 (0, 0))
  hw : wx.heap[w.heap.size + 1 + 1]? = some (.cells (wcells ws) 137 (0, 0))
  ch : Chg (fun _ => False) w wx
theorem RB.kept {w wx wy : World} {v : S8} {ws : List Int} (h : RB w wx v ws) (c : Chg (fun _ => False) wx wy) : RB w wy v ws :=
  ⟨c.obj h.hv (fun h => h), c.obj h.hz (fun h => h), c.obj h.hw (fun h => h), h.ch.trans c (fun _ h => h.elim)⟩
theorem RB.word {w wx : World} {v : S8} {ws : List Int} (h : RB w wx v ws) (x : Int) (k : Nat) (hk : ws.length = k) (hl : ws.length < 64) : RB w (wx.setCell ⟨w.heap.size + 1 + 1, k, none⟩ (.int .u32 x)) v (ws ++ [x]) := by
  have c := (Chg.refl (fun k => k = w.heap.size + 1 + 1) wx).setCell (p := ⟨w.heap.size + 1 + 1, k, none⟩) (.inl rfl) (.int .u32 x)
  exact ⟨c.obj h.hv (by omega), c.obj h.hz (by omega), wordSet h.hw x hl k hk, h.ch.trans c (fun k e => .inr (by omega))⟩
theorem RB.other {w wx wy : World} {v : S8} {ws : List Int} (h : RB w wx v ws) {g : Nat} (hg : w.heap.size + 1 + 1 < g) (c : Chg (fun k => k = g) wx wy) : RB w wy v ws :=
  ⟨c.obj h.hv (by omega), c.obj h.hz (by omega), c.obj h.hw (by omega), h.ch.trans c (fun k e => .inr (by omega))⟩
set_option maxRecDepth 100000 in
set_option maxHeartbeats 4000000 in
theorem rblock_calls (w : World) (bk g L c at_ : Nat) (v : S8) (p : List UInt8) (hv : v.ok) (hk : w.heap[bk]? = some (.cells kcells 137 (0, 0))) (hL : at_ + 64 ≤ L) (hLb : L ≤ 140737488355328)
    (hp : ∀ j, j < 64 → w.cell? ⟨g, at_ + j, none⟩ = some (.int .u8 (byteAt p j))) :
    Calls Try.prog 93 #[v.val, .pointer (some ⟨bk, 0, none⟩), .slice (some ⟨g, 0, none⟩) L c, .int .i64 at_] w fun e w' => e = .returned (v.block p).val ∧ Chg (fun _ => False) w w' := by
  have HK := Lib.hid hk
  have HP := Lib.hid hp
  have hbk := blkLt hk
  clear hk hp
  obtain ⟨q1, q2, q3⟩ := three w v.cells.toArray #[.int .u32 0, .int .u32 0, .int .u32 0, .int .u32 0, .int .u32 0, .int .u32 0, .int .u32 0, .int .u32 0] (wcells []) 131 131 137
  have HR0 := Lib.hid (RB.mk q1 q2 q3 ((((Chg.refl _ w).alloc _).alloc _).alloc _))
  clear q1 q2 q3
  unfold S8.val
  go_enter Try.func93, Try.ntmps93
  go_wp2
  go_loopw [10] (fun v2 wx => ∃ k : Nat, k ≤ 16 ∧ v2 = .int .i64 k ∧ HD (RB w wx v (sch p k))) (fun v2 _ => 16 - (intOf v2).toNat)
  case atStart => exact ⟨0, Nat.zero_le _, rfl, ⟨HR0.out⟩⟩
  case round =>
    clear HR0
    obtain ⟨k, hk, rfl, HR⟩ := hrel
    by_cases hlt : k < 16
    · have h0 := cellChg (HP.out (4 * k) (by omega)) HR.out.ch (fun h => h)
      have h1 := cellChg (HP.out (4 * k + 1) (by omega)) HR.out.ch (fun h => h)
      have h2 := cellChg (HP.out (4 * k + 2) (by omega)) HR.out.ch (fun h => h)
      have h3 := cellChg (HP.out (4 * k + 3) (by omega)) HR.out.ch (fun h => h)
      have r0 := byteAt_range p (4 * k)
      have r1 := byteAt_range p (4 * k + 1)
      have r2 := byteAt_range p (4 * k + 2)
      have r3 := byteAt_range p (4 * k + 3)
      have HSL := Lib.hid (sch_low p k hlt)
      have f0 := freeAt HR.out.hw k (by rw [sch_len]; omega) (by omega)
      have f1 := blkFree HR.out.hw k
      have hwl := blkLt HR.out.hw
      obtain ⟨n0, e0⟩ : ∃ n, byteAt p (4 * k) = n := ⟨_, rfl⟩
      obtain ⟨n1, e1⟩ : ∃ n, byteAt p (4 * k + 1) = n := ⟨_, rfl⟩
      obtain ⟨n2, e2⟩ : ∃ n, byteAt p (4 * k + 2) = n := ⟨_, rfl⟩
      obtain ⟨n3, e3⟩ : ∃ n, byteAt p (4 * k + 3) = n := ⟨_, rfl⟩
      rw [e0] at h0 r0
      rw [e1] at h1 r1
      rw [e2] at h2 r2
      rw [e3] at h3 r3
      rw [e0, e1, e2, e3] at HSL
      clear e0 e1 e2 e3
      obtain ⟨x, hx⟩ : ∃ x : Nat, at_ + 4 * k = x := ⟨_, rfl⟩
      rw [show at_ + (4 * k + 1) = x + 1 from by omega] at h1
      rw [show at_ + (4 * k + 2) = x + 2 from by omega] at h2
      rw [show at_ + (4 * k + 3) = x + 3 from by omega] at h3
      rw [hx] at h0
      have hxi : (at_ : Int) + 4 * (k : Int) = (x : Int) := by omega
      have hk1 : (x : Int) < (L : Int) := by omega
      have hk2 : (x : Int) + 1 < (L : Int) := by omega
      have hk3 : (x : Int) + 2 < (L : Int) := by omega
      have hk4 : (x : Int) + 3 < (L : Int) := by omega
      have hk5 : (k : Int) < 64 := by omega
      have hq0 : (0 : Int) ≤ (x : Int) := by omega
      have hq1 : (0 : Int) ≤ (x : Int) + 1 := by omega
      have hq2 : (0 : Int) ≤ (x : Int) + 2 := by omega
      have hq3 : (0 : Int) ≤ (x : Int) + 3 := by omega
      have v1 : IntKind.i64.wrap ((x : Int) + 1) = (x : Int) + 1 := IntWalk.i64_in _ (by omega)
      have v2 : IntKind.i64.wrap ((x : Int) + 2) = (x : Int) + 2 := IntWalk.i64_in _ (by omega)
      have v3 : IntKind.i64.wrap ((x : Int) + 3) = (x : Int) + 3 := IntWalk.i64_in _ (by omega)
      have t0 : ((x : Int)).toNat = x := by omega
      have t1 : ((x : Int) + 1).toNat = x + 1 := by omega
      have t2 : ((x : Int) + 2).toNat = x + 2 := by omega
      have t3 : ((x : Int) + 3).toNat = x + 3 := by omega
      have t4 : (k : Int).toNat = k := by omega
      clear hx
      go_wp2_with fail
      go_still_tail 30, (by kernel_rfl)
      change wpList _ _ _ _ _ wr.drew
      clear v1 v2 v3 hxi
      go_wp2
      exact ⟨⟨k + 1, by omega, by go_num, ⟨by rw [HSL.out]; exact (HR.out.word _ k (sch_len p k) (by rw [sch_len]; omega)).kept (Chg.refl _ _).drew⟩⟩, by simp [intOf]; omega⟩
    · obtain rfl : k = 16 := by omega
      obtain ⟨w1, rfl⟩ : ∃ w1, w1 = wr := ⟨_, rfl⟩
      rw [show ((16 : Nat) : Int) = 16 from rfl]
      go_wp2
      go_loopw [12] (fun v2 wx => ∃ k : Nat, 16 ≤ k ∧ k ≤ 64 ∧ v2 = .int .i64 k ∧ HD (RB w wx v (sch p k))) (fun v2 _ => 64 - (intOf v2).toNat)
      case atStart => exact ⟨16, by omega, by omega, rfl, HR⟩
      case round =>
        clear HR
        obtain ⟨k, hk16, hk, rfl, HR⟩ := hrel
        by_cases hlt : k < 64
        · obtain ⟨w2, rfl⟩ : ∃ w2, w2 = wr := ⟨_, rfl⟩
          have h15 := wordsAt HR.out.hw (k - 15) (by rw [sch_len]; omega)
          have h2 := wordsAt HR.out.hw (k - 2) (by rw [sch_len]; omega)
          have h16 := wordsAt HR.out.hw (k - 16) (by rw [sch_len]; omega)
          have h7 := wordsAt HR.out.hw (k - 7) (by rw [sch_len]; omega)
          have h0 := freeAt HR.out.hw k (by rw [sch_len]; omega) (by omega)
          have hf := blkFree HR.out.hw k
          have hwl := blkLt HR.out.hw
          have HSL := Lib.hid (sch_high p k hk16)
          obtain ⟨a15, b15⟩ := sch_get p k (k - 15)
          obtain ⟨a2, b2⟩ := sch_get p k (k - 2)
          obtain ⟨a16, b16⟩ := sch_get p k (k - 16)
          obtain ⟨a7, b7⟩ := sch_get p k (k - 7)
          obtain ⟨n15, e15⟩ : ∃ n, (sch p k).getD (k - 15) 0 = n := ⟨_, rfl⟩
          obtain ⟨n2, e2⟩ : ∃ n, (sch p k).getD (k - 2) 0 = n := ⟨_, rfl⟩
          obtain ⟨n16, e16⟩ : ∃ n, (sch p k).getD (k - 16) 0 = n := ⟨_, rfl⟩
          obtain ⟨n7, e7⟩ : ∃ n, (sch p k).getD (k - 7) 0 = n := ⟨_, rfl⟩
          rw [e15] at h15 a15 b15
          rw [e2] at h2 a2 b2
          rw [e16] at h16 a16 b16
          rw [e7] at h7 a7 b7
          rw [e15, e2, e16, e7] at HSL
          clear e15 e2 e16 e7
          have v15 : IntKind.i64.wrap ((k : Int) - 15) = (k : Int) - 15 := IntWalk.i64_in _ (by omega)
          have v2 : IntKind.i64.wrap ((k : Int) - 2) = (k : Int) - 2 := IntWalk.i64_in _ (by omega)
          have v16 : IntKind.i64.wrap ((k : Int) - 16) = (k : Int) - 16 := IntWalk.i64_in _ (by omega)
          have v7 : IntKind.i64.wrap ((k : Int) - 7) = (k : Int) - 7 := IntWalk.i64_in _ (by omega)
          have t15 : ((k : Int) - 15).toNat = k - 15 := by omega
          have t2 : ((k : Int) - 2).toNat = k - 2 := by omega
          have t16 : ((k : Int) - 16).toNat = k - 16 := by omega
          have t7 : ((k : Int) - 7).toNat = k - 7 := by omega
          have t0 : (k : Int).toNat = k := by omega
          have p15 : (0 : Int) ≤ (k : Int) - 15 := by omega
          have p2 : (0 : Int) ≤ (k : Int) - 2 := by omega
          have p16 : (0 : Int) ≤ (k : Int) - 16 := by omega
          have p7 : (0 : Int) ≤ (k : Int) - 7 := by omega
          have p0 : (0 : Int) ≤ (k : Int) := by omega
          have r15 : (15 : Int) ≤ (k : Int) := by omega
          have r2 : (2 : Int) ≤ (k : Int) := by omega
          have r16 : (16 : Int) ≤ (k : Int) := by omega
          have r7 : (7 : Int) ≤ (k : Int) := by omega
          have q15 : (k : Int) - 15 < 64 := by omega
          have q2 : (k : Int) - 2 < 64 := by omega
          have q16 : (k : Int) - 16 < 64 := by omega
          have q7 : (k : Int) - 7 < 64 := by omega
          have q0 : (k : Int) < 64 := by omega
          go_wp2_with fail
          clear h15 h2
          refine region_quiet_tail 28 (by kernel_rfl) (by kernel_rfl) ?_
          simp only [List.take_succ_cons, List.take_zero, List.drop_succ_cons, List.drop_zero]
          repeat (quiet_step ((go_at_call 106; exact quietR (right_any _ _ _ (by assumption) (by assumption) (by decide)))))
          refine wpQuiet_nil ?_
          rintro w' ⟨nq, rfl⟩
          clear v15 v2 v16 v7
          go_wp2
          exact ⟨⟨k + 1, by omega, by omega, by go_num, ⟨by rw [HSL.out]; exact ((HR.out.kept ((Chg.refl _ _).drewN nq)).word _ k (sch_len p k) (by rw [sch_len]; omega))⟩⟩, by simp [intOf]; omega⟩
        · obtain rfl : k = 64 := by omega
          obtain ⟨w2, rfl⟩ : ∃ w2, w2 = wr := ⟨_, rfl⟩
          rw [show ((64 : Nat) : Int) = 64 from rfl]
          clear hk hk16 hlt
          obtain ⟨s0, s1, s2, s3, s4, s5, s6, s7⟩ := stateAt HR.out.hv
          go_wp2_with fail
          have HU : Hid ((w2.alloc (.cells v.cells.toArray 131)).heap[w2.heap.size]? = some (.cells v.cells.toArray 131 (0, 0))) := Lib.hid (blkAlloc w2 _)
          have HR2 := Lib.hid (HR.out.kept ((Chg.refl _ w2).alloc (.cells v.cells.toArray 131)))
          have HBU : Hid (w.heap.size + 1 + 1 < w2.heap.size) := Lib.hid (blkLt HR.out.hw)
          clear s0 s1 s2 s3 s4 s5 s6 s7 HR
          go_loopw [16] (fun i wx => ∃ k : Nat, k ≤ 64 ∧ i = .int .i64 k ∧ HD (wx.heap[w2.heap.size]? = some (.cells (v.rnds kons (sch p 64) k).cells.toArray 131 (0, 0))) ∧ HD (RB w wx v (sch p 64))) (fun i _ => 64 - (intOf i).toNat)
          case atStart => exact ⟨0, Nat.zero_le _, rfl, ⟨HU.out⟩, ⟨HR2.out⟩⟩
          case round =>
            clear HU HR2
            obtain ⟨k, hk, rfl, HU, HR⟩ := hrel
            obtain ⟨w4, rfl⟩ : ∃ w4, w4 = wr := ⟨_, rfl⟩
            obtain ⟨t, ht⟩ : ∃ t, v.rnds kons (sch p 64) k = t := ⟨_, rfl⟩
            have HT := Lib.hid ht
            obtain ⟨⟨a0, a1⟩, _, _, _, ⟨e0, e1⟩, _, _, _⟩ : t.ok := by rw [← ht]; exact S8.rnds_ok hv _ _ _
            rw [ht] at HU
            clear ht
            obtain ⟨c0, c1, c2, c3, c4, c5, c6, c7⟩ := stateAt HU.out
            by_cases hlt : k < 64
            · have hkk : w4.cell? ⟨bk, k, none⟩ = some (.int .u32 (kons.getD k 0)) := by
                rw [blkCell (HR.out.ch.obj HK.out (fun h => h)), kcells_get k hlt]
              have hww := wordsAt HR.out.hw k (by rw [sch_len]; exact hlt)
              have HRN : Hid (v.rnds kons (sch p 64) (k + 1) = t.rnd (kons.getD k 0) ((sch p 64).getD k 0)) := Lib.hid (by rw [← HT.out]; rfl)
              obtain ⟨kk, ek⟩ : ∃ n, kons.getD k 0 = n := ⟨_, rfl⟩
              obtain ⟨ww, ew⟩ : ∃ n, (sch p 64).getD k 0 = n := ⟨_, rfl⟩
              rw [ek] at hkk HRN
              rw [ew] at hww HRN
              clear ek ew
              have g0 := blkFree HU.out 0
              have g1 := blkFree HU.out 1
              have g2 := blkFree HU.out 2
              have g3 := blkFree HU.out 3
              have g4 := blkFree HU.out 4
              have g5 := blkFree HU.out 5
              have g6 := blkFree HU.out 6
              have g7 := blkFree HU.out 7
              have t0 : (k : Int).toNat = k := by omega
              have p0 : (0 : Int) ≤ (k : Int) := by omega
              have q0 : (k : Int) < 64 := by omega
              go_wp2_with fail
              go_quiet ((go_at_call 106; exact quietR (right_any _ _ _ e0 e1 (by decide))))
              go_wp2_with fail
              obtain ⟨w5, hw5⟩ : ∃ w5, w4.drewN nq = w5 := ⟨_, rfl⟩
              rw [hw5]
              have HU5 : Hid (w5.heap[w2.heap.size]? = some (.cells t.cells.toArray 131 (0, 0))) := Lib.hid (by rw [← hw5]; exact HU.out)
              have HR5 : Hid (RB w w5 v (sch p 64)) := Lib.hid (by rw [← hw5]; exact HR.out.kept ((Chg.refl _ _).drewN nq))
              clear hkk hww hw5 c0 c1 c2 c3 c4 c5 c6 c7 g0 g1 g2 g3 g4 g5 g6 g7 HU HR
              obtain ⟨c0, c1, c2, c3, c4, c5, c6, c7⟩ := stateAt HU5.out
              have g0 := blkFree HU5.out 0
              have g1 := blkFree HU5.out 1
              have g2 := blkFree HU5.out 2
              have g3 := blkFree HU5.out 3
              have g4 := blkFree HU5.out 4
              have g5 := blkFree HU5.out 5
              have g6 := blkFree HU5.out 6
              have g7 := blkFree HU5.out 7
              go_quiet ((go_at_call 106; exact quietR (right_any _ _ _ a0 a1 (by decide))))
              go_wp2
              have h8 := set8 (w := w5.drewN nq) (HU5.out) (t.rnd2 kk ww)
              exact ⟨⟨k + 1, by omega, by go_num, ⟨by rw [HRN.out, S8.rnd_two]; exact h8.1⟩, ⟨(HR5.out.kept ((Chg.refl _ w5).drewN nq)).other HBU.out h8.2⟩⟩, by simp [intOf]; omega⟩
            · obtain rfl : k = 64 := by omega
              rw [show ((64 : Nat) : Int) = 64 from rfl]
              have HB : Hid (v.add t = v.block p) := Lib.hid (by rw [← HT.out]; rfl)
              clear hk hlt a0 a1 e0 e1 c0 c1 c2 c3 c4 c5 c6 c7 HT
              go_wp2_with fail
              go_loopw [21] (fun i wx => ∃ k : Nat, k ≤ 8 ∧ i = .int .i64 k ∧ HD (wx.heap[w.heap.size]? = some (.cells (S8.mid v t k) 131 (0, 0))) ∧ HD (wx.heap[w2.heap.size]? = some (.cells t.cells.toArray 131 (0, 0))) ∧ HD (wx.heap[w.heap.size + 1]? = some (.cells #[.int .u32 0, .int .u32 0, .int .u32 0, .int .u32 0, .int .u32 0, .int .u32 0, .int .u32 0, .int .u32 0] 131 (0, 0))) ∧ HD (Chg (fun _ => False) w wx)) (fun i _ => 8 - (intOf i).toNat)
              case atStart => exact ⟨0, Nat.zero_le _, rfl, ⟨HR.out.hv⟩, HU, ⟨HR.out.hz⟩, ⟨HR.out.ch⟩⟩
              case round =>
                clear HU HR
                obtain ⟨k, hk, rfl, HM, HU, HZ, GG⟩ := hrel
                obtain ⟨w6, rfl⟩ : ∃ w6, w6 = wr := ⟨_, rfl⟩
                by_cases hlt : k < 8
                · have c0 := blkCell HM.out k
                  rw [S8.mid_get v t k hlt, cells_words v k hlt] at c0
                  have c1 : w6.cell? ⟨w2.heap.size, k, none⟩ = some (.int .u32 (t.words.getD k 0)) := by
                    rw [blkCell HU.out, List.getElem?_toArray, cells_words t k hlt]
                  have f0 := blkFree HM.out k
                  have hbl := blkLt HM.out
                  have HA : Hid ((v.add t).cells[k]? = some (.int .u32 ((v.words.getD k 0 + t.words.getD k 0) % 4294967296))) := Lib.hid (by rw [cells_words _ k hlt, add_words _ _ k hlt])
                  obtain ⟨x, hx⟩ : ∃ x, v.words.getD k 0 = x := ⟨_, rfl⟩
                  obtain ⟨y, hy⟩ : ∃ y, t.words.getD k 0 = y := ⟨_, rfl⟩
                  rw [hx] at c0 HA
                  rw [hy] at c1 HA
                  clear hx hy
                  have t0 : (k : Int).toNat = k := by omega
                  have p0 : (0 : Int) ≤ (k : Int) := by omega
                  have q0 : (k : Int) < 8 := by omega
                  go_wp2_with fail
                  go_still_tail 8, (by kernel_rfl)
                  change wpList _ _ _ _ _ w6.drew
                  go_wp2
                  have hc := (Chg.refl (fun k => k = w.heap.size) w6).setCell (p := ⟨w.heap.size, k, none⟩) (.inl rfl) (.int .u32 ((x + y) % 4294967296))
                  exact ⟨⟨k + 1, by omega, by go_num, ⟨by have h := blkSet HM.out k (.int .u32 ((x + y) % 4294967296)); rw [S8.mid_step v t k (.int .u32 ((x + y) % 4294967296)) HA.out] at h; exact h⟩, ⟨hc.drew.obj HU.out (by have := HBU.out; omega)⟩, ⟨hc.drew.obj HZ.out (by omega)⟩, ⟨GG.out.trans hc.drew (fun j e => .inr (by omega))⟩⟩, by simp [intOf]; omega⟩
                · obtain rfl : k = 8 := by omega
                  rw [show ((8 : Nat) : Int) = 8 from rfl]
                  have HV8 : Hid (w6.heap[w.heap.size]? = some (.cells (v.block p).cells.toArray 131 (0, 0))) := Lib.hid (by rw [← HB.out]; exact HM.out)
                  obtain ⟨y, hy⟩ : ∃ y, v.block p = y := ⟨_, rfl⟩
                  rw [hy] at HV8
                  clear hlt hk HM HU
                  obtain ⟨c0, c1, c2, c3, c4, c5, c6, c7⟩ := stateAt HV8.out
                  obtain ⟨z0, z1, z2, z3, z4, z5, z6, z7⟩ := stateAt (s := ⟨0, 0, 0, 0, 0, 0, 0, 0⟩) HZ.out
                  have g0 := blkFree HZ.out 0
                  have g1 := blkFree HZ.out 1
                  have g2 := blkFree HZ.out 2
                  have g3 := blkFree HZ.out 3
                  have g4 := blkFree HZ.out 4
                  have g5 := blkFree HZ.out 5
                  have g6 := blkFree HZ.out 6
                  have g7 := blkFree HZ.out 7
                  have h8 := set8 (s := ⟨0, 0, 0, 0, 0, 0, 0, 0⟩) HZ.out y
                  have H8 := Lib.hid h8.2
                  obtain ⟨d0, d1, d2, d3, d4, d5, d6, d7⟩ := stateAt h8.1
                  clear h8
                  go_wp2
                  refine bodyPost_ret (v := y.val) (by simp [results, go_sem, S8.val, d0, d1, d2, d3, d4, d5, d6, d7]) rfl ⟨rfl, ?_⟩
                  exact GG.out.trans H8.out (fun j e => .inr (by omega))
end Go.Proofs.Ytpdgkgdaaapngaa

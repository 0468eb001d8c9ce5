/- TopPatched: bill's Read of a good bill's bytes. -/
import Derived.Test.YtnhdlclicjmmnaaGreatPjC
import Derived.Test.YtnhdlclicjmmnaaGreatPgB
namespace Go.Proofs.YtnhdlclicjmmnaaGreat
open Go.RowKit Go.Lib Go.Shelf
/-- A bill's bytes, but for its chunks. -/
def preB (v z c : Int) (h t : ByteArray) : List UInt8 := numBytes v 1 ++ (numBytes z 4 ++ (numBytes c 2 ++ (h.data.toList ++ t.data.toList)))
structure GoodB (v z c : Int) (h t : ByteArray) (l : List ByteArray) : Prop where
  chk : checkE v z c h t l = 0
  ne : l ≠ []
theorem partN_le {c : Int} (h : partN c = true) : 64 ≤ c ∧ c ≤ 1024 := by
  simp only [partN, Bool.and_eq_true, decide_eq_true_eq] at h
  exact ⟨h.1.1, h.1.2⟩
theorem GoodB.all {v z c : Int} {h t : ByteArray} {l : List ByteArray} (g : GoodB v z c h t l) : (∀ y ∈ l, y.size = 32) ∧ (l.length : Int) = cntF z c ∧ rootF l = t := by
  have hk := g.chk
  unfold checkE at hk
  split at hk
  · cases hk
  · split at hk
    · rename_i h0
      exact absurd (List.length_eq_zero_iff.1 h0) g.ne
    · split at hk
      · cases hk
      · rename_i hb
        have hb : badL z c t l = false := by simpa using hb
        simp only [badL, Bool.or_eq_false_iff, Bool.not_eq_false', beq_iff_eq] at hb
        refine ⟨fun y hy => ?_, hb.1.1, ?_⟩
        · have := List.any_eq_false.1 hb.2 y hy
          simp only [badC, Bool.not_eq_true', beq_eq_false_iff_ne, Decidable.not_not, ne_eq] at this
          omega
        · have := hb.1.2
          rw [ByteArray.toList_eq, ByteArray.toList_eq] at this
          exact WideShapes.bytes_inj this
theorem GoodB.rng {v z c : Int} {h t : ByteArray} {l : List ByteArray} (g : GoodB v z c h t l) : 1 ≤ v ∧ v ≤ 255 ∧ 1 ≤ z ∧ z ≤ 8192 ∧ 64 ≤ c ∧ c ≤ 1024 ∧ h.size = 32 ∧ t.size = 32 ∧ l.length ≤ 128 := by
  obtain ⟨a1, a2, a3, a4, a5, a6, a7⟩ := checkE_range g.chk
  obtain ⟨b1, b2⟩ := partN_le a5
  obtain ⟨_, c2, _⟩ := g.all
  refine ⟨a1, a2, a3, a4, b1, b2, a6, a7, ?_⟩
  have : (z + c - 1) / c < 129 := by
    apply Int.ediv_lt_of_lt_mul (by omega)
    omega
  unfold cntF at c2
  omega
theorem fitsI {x : Int} {n : Nat} (h0 : 0 ≤ x) (h : n < 8 → x / 2 ^ (8 * n) = 0) : fits x n := ⟨h0, h⟩
theorem GoodB.bytes {v z c : Int} {h t : ByteArray} {l : List ByteArray} (g : GoodB v z c h t l) : billT v z c h t l = strOf (preB v z c h t ++ catS l) ∧ leafE v z c h t l = 0 := by
  obtain ⟨a1, a2, a3, a4, b1, b2, a6, a7, _⟩ := g.rng
  refine bill_law (strOf (preB v z c h t ++ catS l)) v z c h t l ⟨by omega, fun _ => by simp only [Nat.reduceMul, Int.reducePow]; omega⟩ ⟨by omega, fun _ => by simp only [Nat.reduceMul, Int.reducePow]; omega⟩ ⟨by omega, fun _ => by simp only [Nat.reduceMul, Int.reducePow]; omega⟩ a6 a7 g.chk ?_
  rw [strOf_list]
  simp [preB]
theorem catS_32 (l : List ByteArray) (h : ∀ y ∈ l, y.size = 32) : (catS l).length = 32 * l.length := by
  induction l with
  | nil => rfl
  | cons y r ih =>
    have h1 := h y (List.mem_cons_self ..)
    have h2 := ih (fun z hz => h z (List.mem_cons_of_mem _ hz))
    rw [catS, List.flatMap_cons, List.length_append, bsize, h1, List.length_cons]
    rw [catS] at h2
    omega
theorem preB_len (v z c : Int) (h t : ByteArray) (h1 : h.size = 32) (h2 : t.size = 32) : (preB v z c h t).length = 71 := by
  simp only [preB, List.length_append, numBytes_len, bsize, h1, h2]
/-- What stands while the list is read. -/
def GSt (w wr : World) (b0 rb gb : Nat) (v z c : Int) (h t : ByteArray) (l : List ByteArray) (m : Nat) : Prop :=
  ∃ (l1 l2 : List ByteArray) (A : Option Addr) (cap : Nat) (r : Option Nat), l1 ++ l2 = l ∧ l2.length = m ∧ RdAt wr 159 rb (strOf (catS l2), 0) ∧ TRow wr (.slice A l1.length cap) r l1 ∧
    wr.heap[gb]? = some (.cells #[.int .i64 v, .int .i64 z, .int .i64 c, .string h, .string t, .slice A l1.length cap] 27 (0, 0)) ∧ (∀ k, r = some k → w.heap.size ≤ k) ∧
    wr.heap[b0]? = some (.cells #[.int .i64 0, .int .i64 0, .int .i64 0, .string ⟨#[]⟩, .string ⟨#[]⟩, .slice none 0 0] 27 (0, 0)) ∧ Chg (fun _ => False) w wr
def GPost (w : World) (v z c : Int) (h t : ByteArray) (l : List ByteArray) (e : Ending) (w' : World) : Prop :=
  ∃ A cap r, e = .returned (.tuple #[.agg #[.int .i64 v, .int .i64 z, .int .i64 c, .string h, .string t, .slice A l.length cap], .int .i64 0]) ∧ TRow w' (.slice A l.length cap) r l ∧ (∀ k, r = some k → w.heap.size ≤ k) ∧ Chg (fun _ => False) w w'
theorem raw_laidC (a : ByteArray) (r : List UInt8) (n : Int) (hn : n = a.size) : rawF (strOf (a.data.toList ++ r), 0) n = (a, strOf r, 0) := by
  rw [raw_laid' _ _ n (by rw [hn, bsize]), strOf_data]
set_option maxRecDepth 100000 in
set_option maxHeartbeats 4000000 in
theorem bRead_good (w : World) (v z c : Int) (h t : ByteArray) (l : List ByteArray) (g : GoodB v z c h t l) :
    Calls Tryz.prog 67 #[.string (strOf (preB v z c h t ++ catS l))] w (GPost w v z c h t l) := by
  obtain ⟨a1, a2, a3, a4, b1, b2, a6, a7, a8⟩ := g.rng
  obtain ⟨hl32, hcnt, hroot⟩ := g.all
  have hcat := catS_32 l hl32
  have hss : (strOf (preB v z c h t ++ catS l)).size = 71 + 32 * l.length := by rw [strOf_size, List.length_append, preB_len v z c h t a6 a7, hcat]
  have R1 : numF (strOf (preB v z c h t ++ catS l), 0) 1 = (v, strOf (numBytes z 4 ++ (numBytes c 2 ++ (h.data.toList ++ (t.data.toList ++ catS l)))), 0) := by
    have := num_laid v 1 (numBytes z 4 ++ (numBytes c 2 ++ (h.data.toList ++ (t.data.toList ++ catS l)))) ⟨by omega, fun _ => by simp only [Nat.reduceMul, Int.reducePow]; omega⟩ (by omega) (by omega)
    rw [← this]
    simp [preB]
  have R2 : numF (strOf (numBytes z 4 ++ (numBytes c 2 ++ (h.data.toList ++ (t.data.toList ++ catS l)))), 0) 4 = (z, strOf (numBytes c 2 ++ (h.data.toList ++ (t.data.toList ++ catS l))), 0) :=
    num_laid z 4 _ ⟨by omega, fun _ => by simp only [Nat.reduceMul, Int.reducePow]; omega⟩ (by omega) (by omega)
  have R3 : numF (strOf (numBytes c 2 ++ (h.data.toList ++ (t.data.toList ++ catS l))), 0) 2 = (c, strOf (h.data.toList ++ (t.data.toList ++ catS l)), 0) :=
    num_laid c 2 _ ⟨by omega, fun _ => by simp only [Nat.reduceMul, Int.reducePow]; omega⟩ (by omega) (by omega)
  have R4 := raw_laidC h (t.data.toList ++ catS l) 32 (by rw [a6]; rfl)
  have R5 := raw_laidC t (catS l) 32 (by rw [a7]; rfl)
  have z1 : (strOf (preB v z c h t ++ catS l)).size ≤ 1048576 := by rw [hss]; omega
  have z2 : (strOf (numBytes z 4 ++ (numBytes c 2 ++ (h.data.toList ++ (t.data.toList ++ catS l))))).size ≤ 1048576 := by
    rw [strOf_size]; simp only [List.length_append, numBytes_len, bsize, a6, a7, hcat]; omega
  have z3 : (strOf (numBytes c 2 ++ (h.data.toList ++ (t.data.toList ++ catS l)))).size ≤ 1048576 := by
    rw [strOf_size]; simp only [List.length_append, numBytes_len, bsize, a6, a7, hcat]; omega
  have z6 : (strOf (catS l)).size = 32 * l.length := by rw [strOf_size, hcat]
  have C0 := Lib.hid (fun w => count_calls w 8192 64 (by decide) (by decide) (by decide) (by decide))
  rw [show cntF 8192 64 = 128 from by decide] at C0
  obtain ⟨s1, hs1⟩ : ∃ x, strOf (preB v z c h t ++ catS l) = x := ⟨_, rfl⟩
  obtain ⟨s2, hs2⟩ : ∃ x, strOf (numBytes z 4 ++ (numBytes c 2 ++ (h.data.toList ++ (t.data.toList ++ catS l)))) = x := ⟨_, rfl⟩
  obtain ⟨s3, hs3⟩ : ∃ x, strOf (numBytes c 2 ++ (h.data.toList ++ (t.data.toList ++ catS l))) = x := ⟨_, rfl⟩
  obtain ⟨s4, hs4⟩ : ∃ x, strOf (h.data.toList ++ (t.data.toList ++ catS l)) = x := ⟨_, rfl⟩
  obtain ⟨s5, hs5⟩ : ∃ x, strOf (t.data.toList ++ catS l) = x := ⟨_, rfl⟩
  rw [hs1] at R1 hss z1 ⊢
  rw [hs2] at R1 R2 z2
  rw [hs3] at R2 R3 z3
  rw [hs4] at R3 R4
  rw [hs5] at R4 R5
  have R1 := Lib.hid R1
  have R2 := Lib.hid R2
  have R3 := Lib.hid R3
  have R4 := Lib.hid R4
  have R5 := Lib.hid R5
  have d0 : decide ((s1.size : Int) < 71) = false := decide_eq_false (by omega)
  have k1 : IntKind.i64.wrap ((s1.size : Int) - 71) = (s1.size : Int) - 71 := by rw [IntKind.wrap_i64]; omega
  have k2 : ((s1.size : Int) - 71) % 32 = 0 := by omega
  have k3 : ((s1.size : Int) - 71).tmod 32 = 0 := by rw [Int.tmod_eq_emod_of_nonneg (by omega)]; exact k2
  have HG := Lib.hid g
  have HCAT := Lib.hid hcat
  have HZ6 := Lib.hid z6
  have HL32 := Lib.hid hl32
  have HSS := Lib.hid hss
  clear hs1 hs2 hs3 hs4 hs5 hss hcat z6 hl32 hcnt hroot a1 a2 a3 a4 b1 b2 g
  go_enter Tryz.func67, Tryz.ntmps67
  go_wp2_with fail
  obtain ⟨b0, hb0⟩ : ∃ b, w.heap.size = b := ⟨_, rfl⟩
  obtain ⟨W0, hW⟩ : ∃ W0, w.alloc (.cells #[.int .i64 0, .int .i64 0, .int .i64 0, .string ⟨#[]⟩, .string ⟨#[]⟩, .slice none 0 0] 27) = W0 := ⟨_, rfl⟩
  have hz0 : W0.heap[b0]? = some (.cells #[.int .i64 0, .int .i64 0, .int .i64 0, .string ⟨#[]⟩, .string ⟨#[]⟩, .slice none 0 0] 27 (0, 0)) := by rw [← hW, ← hb0]; exact blkAlloc w _
  have hc0 : Chg (fun _ => False) w W0 := by rw [← hW]; exact (Chg.refl _ w).alloc _
  have HBW : Hid (w.heap.size ≤ b0) := Lib.hid (Nat.le_of_eq hb0)
  simp only [hW]
  simp only [hb0]
  clear hW hb0 d0 k1 k2 k3
  refine (pRead_calls W0 s1).mono ?_
  rintro e w1 ⟨rfl, he⟩
  obtain ⟨rb, hrb⟩ : ∃ rb, W0.heap.size = rb := ⟨_, rfl⟩
  have hrd : RdAt w1 159 rb (s1, 0) := by rw [he, ← hrb]; exact blkAlloc W0 _
  have hz0 : w1.heap[b0]? = some (.cells #[.int .i64 0, .int .i64 0, .int .i64 0, .string ⟨#[]⟩, .string ⟨#[]⟩, .slice none 0 0] 27 (0, 0)) := by rw [he]; exact blkOld hz0 _
  have hc1 : Chg (fun _ => False) w w1 := by rw [he]; exact hc0.alloc _
  have HRW : Hid (w.heap.size ≤ rb) := Lib.hid (by rw [← hrb]; exact hc0.size)
  have NE : Hid (b0 ≠ rb) := Lib.hid (blkNe hz0 hrd (by decide))
  have HZ := Lib.hid hz0
  have HC := Lib.hid hc1
  have HRD := Lib.hid hrd
  simp only [hrb]
  clear he hrb hrd hz0 hc0 hc1
  go_wp2_with fail
  refine (Byte_calls _ rb (s1, 0) HRD.out (by show s1.size ≤ _; omega)).mono ?_
  rw [R1.out]
  rintro e w2 ⟨rfl, hrd, hg⟩
  have HZ := Lib.hid (hg.obj HZ.out NE.out)
  have HC := Lib.hid (HC.out.trans hg (fun k e => .inr (by rw [e]; exact HRW.out)))
  have HRD := Lib.hid hrd
  clear hrd hg
  go_wp2_with fail
  refine (Four_calls _ rb (s2, 0) HRD.out (by show s2.size ≤ _; omega)).mono ?_
  rw [R2.out]
  rintro e w3 ⟨rfl, hrd, hg⟩
  have HZ := Lib.hid (hg.obj HZ.out NE.out)
  have HC := Lib.hid (HC.out.trans hg (fun k e => .inr (by rw [e]; exact HRW.out)))
  have HRD := Lib.hid hrd
  clear hrd hg
  go_wp2_with fail
  refine (Two_calls _ rb (s3, 0) HRD.out (by show s3.size ≤ _; omega)).mono ?_
  rw [R3.out]
  rintro e w4 ⟨rfl, hrd, hg⟩
  have HZ := Lib.hid (hg.obj HZ.out NE.out)
  have HC := Lib.hid (HC.out.trans hg (fun k e => .inr (by rw [e]; exact HRW.out)))
  have HRD := Lib.hid hrd
  clear hrd hg
  go_wp2_with fail
  refine (Hash_calls _ rb (s4, 0) HRD.out).mono ?_
  rw [R4.out]
  rintro e w5 ⟨rfl, hrd, hg⟩
  have HZ := Lib.hid (hg.obj HZ.out NE.out)
  have HC := Lib.hid (HC.out.trans hg (fun k e => .inr (by rw [e]; exact HRW.out)))
  have HRD := Lib.hid hrd
  clear hrd hg
  go_wp2_with fail
  refine (Hash_calls _ rb (s5, 0) HRD.out).mono ?_
  rw [R5.out]
  rintro e w6 ⟨rfl, hrd, hg⟩
  have HZ := Lib.hid (hg.obj HZ.out NE.out)
  have HC := Lib.hid (HC.out.trans hg (fun k e => .inr (by rw [e]; exact HRW.out)))
  have HRD := Lib.hid hrd
  clear hrd hg
  go_wp2_with fail
  obtain ⟨gb, hgb⟩ : ∃ g, w6.heap.size = g := ⟨_, rfl⟩
  obtain ⟨W6, hW6⟩ : ∃ W, w6.alloc (.cells #[.int .i64 v, .int .i64 z, .int .i64 c, .string h, .string t, .slice none 0 0] 27) = W := ⟨_, rfl⟩
  have hgo : W6.heap[gb]? = some (.cells #[.int .i64 v, .int .i64 z, .int .i64 c, .string h, .string t, .slice none 0 0] 27 (0, 0)) := by rw [← hW6, ← hgb]; exact blkAlloc w6 _
  have hch : Chg (fun _ => False) w6 W6 := by rw [← hW6]; exact (Chg.refl _ w6).alloc _
  have hrd6 := HRD.out.chg hch (fun h => h)
  have HGW : Hid (w.heap.size ≤ gb) := Lib.hid (by rw [← hgb]; exact HC.out.size)
  have NE2 : Hid (b0 ≠ gb) := Lib.hid (by have := blkLt HZ.out; omega)
  have hz6 := hch.obj HZ.out (fun h => h)
  have HC := Lib.hid (HC.out.trans hch (fun _ h => h.elim))
  have CL := Lib.hid (Left_calls W6 rb (strOf (catS l), 0) hrd6)
  obtain ⟨N, hN⟩ : ∃ N, (strOf (catS l)).size = N := ⟨_, rfl⟩
  have hN2 : N = 32 * l.length := by rw [← hN]; exact HZ6.out
  simp only [hW6]
  simp only [hgb]
  have HST : Hid (GSt w W6 b0 rb gb v z c h t l l.length) := Lib.hid ⟨[], l, none, 0, none, rfl, rfl, hrd6, SRow.nil _, hgo, (fun k (e : none = some k) => nomatch e), hz6, HC.out⟩
  rw [show (strOf (catS l), (0 : Int)).1.size = N from hN] at CL
  have hN3 : (N : Int) ≤ 4096 := by omega
  clear hW6 hgb hgo hch hrd6 hz6 HC HZ HRD hN hN2 HZ6 z1 z2 z3
  go_wp2_with (first
    | (go_at_call 92; refine (CL.out).mono ?_; rintro e w7 ⟨rfl, rfl⟩)
    | (go_at_call 49; refine (C0.out _).mono ?_; rintro e w8 ⟨rfl, he⟩; obtain rfl := he))
  go_loopg [] l.length (fun k wr => HD (GSt w wr b0 rb gb v z c h t l k))
  case atStart => exact ⟨HST.out⟩
  case round =>
    obtain ⟨l1, l2, A, cap, r, hl12, hl2, hrd, hrow, hgbk, hr, hz, hch⟩ := hrel.out
    obtain ⟨w2, rfl⟩ : ∃ w2, w2 = wr := ⟨_, rfl⟩
    have CL := Lib.hid (Left_calls w2 rb (strOf (catS l2), 0) hrd)
    have hs2 : ∀ y ∈ l2, y.size = 32 := fun y hy => HL32.out y (by rw [← hl12]; exact List.mem_append_right _ hy)
    obtain ⟨M, hM⟩ : ∃ M, 32 * gk = M := ⟨_, rfl⟩
    rw [show (strOf (catS l2), (0 : Int)).1.size = M from by show (strOf (catS l2)).size = M; rw [strOf_size, catS_32 l2 hs2, hl2, hM]] at CL
    have hll : l1.length + l2.length = l.length := by rw [← hl12, List.length_append]
    have HROW := Lib.hid hrow
    have HGB := Lib.hid hgbk
    have HR := Lib.hid hr
    have HZ := Lib.hid hz
    have HC := Lib.hid hch
    have HRD := Lib.hid hrd
    have HL12 := Lib.hid hl12
    have HL2 := Lib.hid hl2
    have HS2 := Lib.hid hs2
    clear hrd hrow hgbk hr hz hch hrel hl12 hs2
    by_cases hk0 : gk = 0
    · have hM0 : M = 0 := by omega
      subst hM0
      have hl2n : l2 = [] := List.eq_nil_of_length_eq_zero (by omega)
      have hll1 : l1 = l := by have := HL12.out; rw [hl2n, List.append_nil] at this; exact this
      subst hll1
      have C1 := Lib.hid (Check_calls w2 v z c h t A cap r l1 HROW.out (by omega) (fun y hy => by rw [HL32.out y hy]; decide))
      rw [HG.out.chk] at C1
      have c0 : w2.cell? ⟨gb, 0, none⟩ = some (.int .i64 v) := blkCell HGB.out 0
      have c1 : w2.cell? ⟨gb, 1, none⟩ = some (.int .i64 z) := blkCell HGB.out 1
      have c2 : w2.cell? ⟨gb, 2, none⟩ = some (.int .i64 c) := blkCell HGB.out 2
      have c3 : w2.cell? ⟨gb, 3, none⟩ = some (.string h) := blkCell HGB.out 3
      have c4 : w2.cell? ⟨gb, 4, none⟩ = some (.string t) := blkCell HGB.out 4
      have c5 : w2.cell? ⟨gb, 5, none⟩ = some (.slice A l1.length cap) := blkCell HGB.out 5
      clear hM hl2 hl2n hll
      go_wp2_with (go_at_call 92; refine (CL.out).mono ?_; rintro e w7 ⟨rfl, rfl⟩)
      refine (C1.out).mono ?_
      rintro e w3 ⟨rfl, hg⟩
      have HZ := Lib.hid (hg.obj HZ.out (fun h => h))
      have HGB := Lib.hid (hg.obj HGB.out (fun h => h))
      have HROW := Lib.hid (SRow.chg HROW.out hg (fun _ _ h => h))
      have HC := Lib.hid (HC.out.trans hg (fun _ h => h.elim))
      clear hg c0 c1 c2 c3 c4 c5
      have d0 : w3.cell? ⟨b0, 0, none⟩ = some (.int .i64 0) := blkCell HZ.out 0
      have g0 := blkFree (HZ.out) 0
      have d1 : w3.cell? ⟨b0, 1, none⟩ = some (.int .i64 0) := blkCell HZ.out 1
      have g1 := blkFree (HZ.out) 1
      have d2 : w3.cell? ⟨b0, 2, none⟩ = some (.int .i64 0) := blkCell HZ.out 2
      have g2 := blkFree (HZ.out) 2
      have d3 : w3.cell? ⟨b0, 3, none⟩ = some (.string ⟨#[]⟩) := blkCell HZ.out 3
      have g3 := blkFree (HZ.out) 3
      have d4 : w3.cell? ⟨b0, 4, none⟩ = some (.string ⟨#[]⟩) := blkCell HZ.out 4
      have g4 := blkFree (HZ.out) 4
      have d5 : w3.cell? ⟨b0, 5, none⟩ = some (.slice none 0 0) := blkCell HZ.out 5
      have g5 := blkFree (HZ.out) 5
      have c0 : w3.cell? ⟨gb, 0, none⟩ = some (.int .i64 v) := blkCell HGB.out 0
      have c1 : w3.cell? ⟨gb, 1, none⟩ = some (.int .i64 z) := blkCell HGB.out 1
      have c2 : w3.cell? ⟨gb, 2, none⟩ = some (.int .i64 c) := blkCell HGB.out 2
      have c3 : w3.cell? ⟨gb, 3, none⟩ = some (.string h) := blkCell HGB.out 3
      have c4 : w3.cell? ⟨gb, 4, none⟩ = some (.string t) := blkCell HGB.out 4
      have c5 : w3.cell? ⟨gb, 5, none⟩ = some (.slice A l1.length cap) := blkCell HGB.out 5
      go_wp2_with fail
      obtain ⟨hb, hcb⟩ := boxSet6 (HZ.out) (.int .i64 v) (.int .i64 z) (.int .i64 c) (.string h) (.string t) (.slice A l1.length cap)
      have q0 := blkCell hb 0
      have q1 := blkCell hb 1
      have q2 := blkCell hb 2
      have q3 := blkCell hb 3
      have q4 := blkCell hb 4
      have q5 := blkCell hb 5
      refine bodyPost_ret (v := .tuple #[.agg #[.int .i64 v, .int .i64 z, .int .i64 c, .string h, .string t, .slice A l1.length cap], .int .i64 0]) (by simp [results, go_sem, q0, q1, q2, q3, q4, q5]) rfl ⟨A, cap, r, rfl, SRow.chg HROW.out hcb (fun k e hk => by subst hk; exact SRow.ne HROW.out HZ.out (by decide) e), HR.out, HC.out.trans hcb (fun k e => .inr (by rw [e]; exact HBW.out))⟩
    · obtain ⟨m', rfl⟩ : ∃ m', gk = m' + 1 := ⟨gk - 1, by omega⟩
      have hM0 : (0 : Int) < (M : Int) := by omega
      obtain ⟨q, l3, hq3⟩ : ∃ q l3, l2 = q :: l3 := by
        cases l2 with
        | nil => simp only [List.length_nil] at hl2; omega
        | cons q l3 => exact ⟨q, l3, rfl⟩
      have CH := Lib.hid (fun w3 hrd => Hash_calls w3 rb (strOf (catS l2), 0) hrd)
      have hqs : q.size = 32 := HS2.out q (by rw [hq3]; exact List.mem_cons_self ..)
      have hraw : rawF (strOf (catS l2), 0) 32 = (q, strOf (catS l3), 0) := by
        have := raw_laidC q (catS l3) 32 (by rw [hqs]; rfl)
        rw [hq3]
        exact this
      rw [hraw] at CH
      have c5 : w2.cell? ⟨gb, 5, none⟩ = some (.slice A l1.length cap) := blkCell HGB.out 5
      have hbl : (l1.length + 1) * 16 ≤ 140737488355328 := by omega
      have HE : Hid ((l1 ++ [q]) ++ l3 = l ∧ l3.length = m') := Lib.hid ⟨by rw [← HL12.out, hq3]; simp, by rw [hq3] at hl2; simp only [List.length_cons] at hl2; omega⟩
      clear hM hk0 hq3 hqs hraw hl2 hll
      go_wp2_with (go_at_call 92; refine (CL.out).mono ?_; rintro e w7 ⟨rfl, rfl⟩)
      go_region_law (first
        | (refine step_sappend w7 rfl (.tmp 40) (.tmp 43) 25 16 rfl Tryz.underlying25 elemT encT_len encT_one (.slice A l1.length cap) r l1 q (by simp [Act.eval]) (by simp [Act.eval]) HR7.out hbl (by decide) ?_; intro A1 n1 w8 r8 hrow hnext hgrow; have HST := Lib.hid (grow_fin (i := 5) HGB7.out (by decide) HR7.out HR.out HGW.out HC7.out hrow hnext hgrow); have g5 : w8.cell? ⟨gb, 5, none⟩ = some (.slice A l1.length cap) := blkCell HST.out.1 5; have f5 := blkFree HST.out.1 5; clear hrow hnext hgrow)
        | (go_simp; go_at_call 82; refine (CH.out _ (HRD.out.chg (Chg.refl (fun _ => False) _).drew (fun h => h))).mono ?_; rintro e w7 ⟨rfl, hrd7, hg⟩; have hg7 := ((Chg.refl (fun k => k = rb) w2).drew).trans hg (fun _ h => .inl h); have HRD7 := Lib.hid hrd7; have HR7 := Lib.hid (SRow.chg HROW.out hg7 (fun k e hk => by subst hk; exact SRow.ne HROW.out HRD.out (by decide) e)); have HGB7 := Lib.hid (hg7.obj HGB.out (fun e => blkNe HGB.out HRD.out (by decide) e)); have HZ7 := Lib.hid (hg7.obj HZ.out NE.out); have HC7 := Lib.hid (HC.out.trans hg7 (fun k e => .inr (by rw [e]; exact HRW.out))); have d5 : w7.cell? ⟨gb, 5, none⟩ = some (.slice A l1.length cap) := blkCell HGB7.out 5; have k5 : ∀ ob, (w7.alloc ob).cell? ⟨gb, 5, none⟩ = some (.slice A l1.length cap) := fun ob => blkCell (blkOld HGB7.out ob) 5; clear hrd7 hg hg7)
        | fail "NOFIT")
      all_goals
        go_wp2_with fail
        have hst := HST.out
        have hlen : (l1 ++ [q]).length = l1.length + 1 := by rw [List.length_append, List.length_singleton]
        rw [hlen] at hst
        obtain ⟨_, hs2, hs3, hs4, hs5, hs6⟩ := hst
        go_roundg m'
        case measure => omega
        case rel => exact ⟨l1 ++ [q], l3, A1, n1, r8, HE.out.1, HE.out.2, hs6 _ _ _ HRD7.out (fun e => blkNe HGB7.out HRD7.out (by decide) e.symm) (by decide), by rw [hlen]; exact hs3, by rw [hlen]; simpa using hs2, hs4, hs6 _ _ _ HZ7.out NE2.out (by decide), hs5⟩
end Go.Proofs.YtnhdlclicjmmnaaGreat

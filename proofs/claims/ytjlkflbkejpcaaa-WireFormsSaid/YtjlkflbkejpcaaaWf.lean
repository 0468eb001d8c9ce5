/- The walk of WireForms. -/
import Derived.Test.YtjlkflbkejpcaaaFm4
namespace Go.Proofs.Ytjlkflbkejpcaaa
open Go.RowKit

set_option maxRecDepth 100000 in
set_option maxHeartbeats 4000000 in
theorem WireForms_walk (a : AskV) (r : RepV) (body : ByteArray) (w : World) (hbody : body.size ≤ 140737488351232) (hpath : a.path.size ≤ 140737488351232) (hdata : r.data.size ≤ 140737488351232)
    (ha : a.id ≤ 9223372036854775807 ∧ a.fr ≤ 9223372036854775807 ∧ a.most ≤ 9223372036854775807) (hr : r.id ≤ 9223372036854775807 ∧ r.err ≤ 9223372036854775807 ∧ r.size ≤ 9223372036854775807) :
    Calls Try.prog 10 #[a.val, r.val, .string body] w fun e w' => e = .returned (.bool true) ∧ Chg (fun _ => False) w w' := by
  obtain ⟨⟨s0, e0⟩, hla⟩ : ∃ p, layAskF a = p := ⟨_, rfl⟩
  obtain ⟨⟨u0, g0⟩, hlr⟩ : ∃ p, layRepF r = p := ⟨_, rfl⟩
  have hs0 : s0.size ≤ 100 := by have := layAskF_size a; rwa [hla] at this
  have hu0 : u0.size ≤ 100000 := by have := layRepF_size r; rwa [hlr] at this
  obtain ⟨aid, apath, afr, amost⟩ := a
  obtain ⟨rid, rerr, rsize, rdata⟩ := r
  simp only at hpath hdata ha hr
  have HLA := Lib.hid hla
  have HLR := Lib.hid hlr
  have HA := Lib.hid ha
  have HR := Lib.hid hr
  clear hla hlr ha hr
  simp only [AskV.val, RepV.val]
  have HXA : Hid (((w.alloc (.cells #[.int .i64 aid, .string apath, .int .i64 afr, .int .i64 amost] 75)).alloc (.cells #[.int .i64 rid, .int .i64 rerr, .int .i64 rsize, .string rdata] 77)).heap[w.heap.size]? = some (.cells #[.int .i64 aid, .string apath, .int .i64 afr, .int .i64 amost] 75 (0, 0))) := Lib.hid (blkOld (blkAlloc w _) _)
  have HXR : Hid (((w.alloc (.cells #[.int .i64 aid, .string apath, .int .i64 afr, .int .i64 amost] 75)).alloc (.cells #[.int .i64 rid, .int .i64 rerr, .int .i64 rsize, .string rdata] 77)).heap[w.heap.size + 1]? = some (.cells #[.int .i64 rid, .int .i64 rerr, .int .i64 rsize, .string rdata] 77 (0, 0))) := Lib.hid (by
    have h := blkAlloc (w.alloc (.cells #[.int .i64 aid, .string apath, .int .i64 afr, .int .i64 amost] 75)) (.cells #[.int .i64 rid, .int .i64 rerr, .int .i64 rsize, .string rdata] 77)
    rwa [show (w.alloc (.cells #[.int .i64 aid, .string apath, .int .i64 afr, .int .i64 amost] 75)).heap.size = w.heap.size + 1 from by simp] at h)
  have HCH : Hid (Chg (fun _ => False) w ((w.alloc (.cells #[.int .i64 aid, .string apath, .int .i64 afr, .int .i64 amost] 75)).alloc (.cells #[.int .i64 rid, .int .i64 rerr, .int .i64 rsize, .string rdata] 77))) := Lib.hid (((Chg.refl _ w).alloc _).alloc _)
  go_enter Try.func10, Try.ntmps10
  go_wp2_with fail
  refine (goes_calls _).mono ?_
  rintro e w1 ⟨rfl, hg⟩
  have HXA1 := Lib.hid (hg.obj HXA.out (fun h => h))
  have HXR1 := Lib.hid (hg.obj HXR.out (fun h => h))
  have HCH1 := Lib.hid (HCH.out.trans hg (fun _ h => h.elim))
  clear hg HXA HXR HCH
  obtain ⟨x0, x1, x2, x3⟩ := askCells HXA1.out
  have hb1 := blkLt HXA1.out
  go_wp2_with fail
  refine (LayAsk_all _ ⟨aid, apath, afr, amost⟩).mono ?_
  rw [HLA.out]
  rintro e w2 ⟨rfl, hg⟩
  have HXA2 := Lib.hid ((hg.alloc (.cells #[.string s0] 9)).obj HXA1.out (fun h => h))
  have HXR2 := Lib.hid ((hg.alloc (.cells #[.string s0] 9)).obj HXR1.out (fun h => h))
  have HXS2 := Lib.hid (blkAlloc w2 (.cells #[.string s0] 9))
  have HCH2 := Lib.hid (HCH1.out.trans (hg.alloc (.cells #[.string s0] 9)) (fun _ h => h.elim))
  clear hg HXA1 HXR1 HCH1 x0 x1 x2 x3 hb1
  obtain ⟨x0, x1, x2, x3⟩ := askCells HXA2.out
  have hb1 := blkLt HXA2.out
  go_wp2_with fail
  refine (rLayAsk_all _ ⟨aid, apath, afr, amost⟩ (by exact hpath) (by exact HA.out)).mono ?_
  rw [HLA.out]
  rintro e w3 ⟨rfl, hg⟩
  have HXA3 := Lib.hid (hg.obj HXA2.out (fun h => h))
  have HXR3 := Lib.hid (hg.obj HXR2.out (fun h => h))
  have HXS3 := Lib.hid (hg.obj HXS2.out (fun h => h))
  have HCH3 := Lib.hid (HCH2.out.trans hg (fun _ h => h.elim))
  clear hg HXA2 HXR2 HXS2 HCH2 x0 x1 x2 x3 hb1
  obtain ⟨z0, z1, z2, z3⟩ := askCells HXR3.out
  have hb1 := blkLt HXR3.out
  go_wp2_with fail
  refine (LayReply_all _ ⟨rid, rerr, rsize, rdata⟩ (by exact hdata)).mono ?_
  rw [HLR.out]
  rintro e w4 ⟨rfl, hg⟩
  have HXA4 := Lib.hid (hg.obj HXA3.out (fun h => h))
  have HXR4 := Lib.hid (hg.obj HXR3.out (fun h => h))
  have HXS4 := Lib.hid (hg.obj HXS3.out (fun h => h))
  have HCH4 := Lib.hid (HCH3.out.trans hg (fun _ h => h.elim))
  clear hg HXA3 HXR3 HXS3 HCH3 z0 z1 z2 z3 hb1
  obtain ⟨z0, z1, z2, z3⟩ := askCells HXR4.out
  have hb1 := blkLt HXR4.out
  go_wp2_with fail
  refine (rLayReply_all _ ⟨rid, rerr, rsize, rdata⟩ (by exact hdata) (by exact HR.out)).mono ?_
  rw [HLR.out]
  rintro e w5 ⟨rfl, hg⟩
  have HXA5 := Lib.hid (hg.obj HXA4.out (fun h => h))
  have HXS5 := Lib.hid (hg.obj HXS4.out (fun h => h))
  have HCH5 := Lib.hid (HCH4.out.trans hg (fun _ h => h.elim))
  clear hg HXA4 HXR4 HXS4 HCH4 z0 z1 z2 z3 hb1
  have y0 := blkCell HXS5.out 0
  simp only [List.getElem?_toArray, List.getElem?_cons_zero] at y0
  have hb1 := blkLt HXS5.out
  have hb2 := blkLt HXA5.out
  go_wp2_with fail
  go_loopw [76] (fun v wx => ∃ k : Nat, k ≤ 4 ∧ v = .int .i64 k ∧ HD (Chg (fun _ => False) (w5.alloc (.cells #[.string body, .string s0, .string u0, .string (s0 ++ ⟨#[120]⟩)] 9)) wx)) (fun v _ => 4 - (intOf v).toNat)
  case atStart => exact ⟨0, Nat.zero_le _, rfl, ⟨Chg.refl _ _⟩⟩
  case round =>
    rename_i wx _
    clear y0 hb1 hb2
    obtain ⟨k, hk, rfl, GG⟩ := hrel
    by_cases hlt : k < 4
    · skip
      obtain ⟨b, hcb, hbs⟩ : ∃ b : ByteArray, (#[.string body, .string s0, .string u0, .string (s0 ++ ⟨#[120]⟩)] : Array Value)[k]? = some (.string b) ∧ b.size ≤ 140737488351232 := by
        obtain rfl | rfl | rfl | rfl : k = 0 ∨ k = 1 ∨ k = 2 ∨ k = 3 := by omega
        · exact ⟨body, rfl, hbody⟩
        · exact ⟨s0, rfl, by omega⟩
        · exact ⟨u0, rfl, by omega⟩
        · exact ⟨s0 ++ ⟨#[120]⟩, rfl, by rw [ByteArray.size_append]; show s0.size + 1 ≤ _; omega⟩
      have HLB := Lib.hid (GG.out.obj (blkAlloc w5 (.cells #[.string body, .string s0, .string u0, .string (s0 ++ ⟨#[120]⟩)] 9)) (fun h => h))
      have q0 := blkCell HLB.out k
      rw [hcb] at q0
      have hk0 : (0 : Int) ≤ (k : Int) := by omega
      have hk4 : (k : Int) < 4 := by omega
      clear hcb HLB
      obtain ⟨⟨⟨xi, xp, xf, xm⟩, e1⟩, hra⟩ : ∃ p, readAskF b = p := ⟨_, rfl⟩
      obtain ⟨⟨⟨zi, ze, zs, zd⟩, g1⟩, hrr⟩ : ∃ p, readRepF b = p := ⟨_, rfl⟩
      have hzd : zd.size ≤ 140737488351232 := by have := repF_size b; rw [hrr] at this; exact Nat.le_trans this hbs
      obtain ⟨⟨s1, i1⟩, hl1⟩ : ∃ p, layAskF ⟨xi, xp, xf, xm⟩ = p := ⟨_, rfl⟩
      obtain ⟨⟨s2, i2⟩, hl2⟩ : ∃ p, layRepF ⟨zi, ze, zs, zd⟩ = p := ⟨_, rfl⟩
      have HA1 := Lib.hid hra
      have HR1 := Lib.hid hrr
      have HL1 := Lib.hid hl1
      have HL2 := Lib.hid hl2
      have hA : e1 = 0 → b = s1 ∧ 0 = i1 := by
        intro h
        subst h
        have h1 := again_ask hra
        rw [hl1] at h1
        exact ⟨(congrArg Prod.fst h1).symm, (congrArg Prod.snd h1).symm⟩
      have hR : g1 = 0 → b = s2 ∧ 0 = i2 := by
        intro h
        subst h
        have h1 := again_rep hrr
        rw [hl2] at h1
        exact ⟨(congrArg Prod.fst h1).symm, (congrArg Prod.snd h1).symm⟩
      clear hra hrr hl1 hl2
      by_cases he1 : e1 = 0
      · obtain ⟨rfl, rfl⟩ := hA he1
        have he := beq_iff_eq.2 he1
        by_cases hg1 : g1 = 0
        · obtain ⟨rfl, rfl⟩ := hR hg1
          have hgg := beq_iff_eq.2 hg1
          clear hA hR he1 hg1
          go_wp2_with fail
          refine (ReadAsk_all _ b hbs).mono ?_
          rw [HA1.out]
          rintro e w6 ⟨rfl, hg⟩
          have HB1 := Lib.hid (blkAlloc w6 (.cells #[.int .i64 xi, .string xp, .int .i64 xf, .int .i64 xm] 75))
          have G6 := Lib.hid (GG.out.trans (hg.alloc (.cells #[.int .i64 xi, .string xp, .int .i64 xf, .int .i64 xm] 75)) (fun _ h => h.elim))
          clear hg
          simp only [AskV.val]
          go_wp2_with fail
          refine (rReadAsk_all _ b hbs).mono ?_
          rw [HA1.out]
          rintro e w7 ⟨rfl, hg⟩
          have HB1 := Lib.hid ((hg.alloc (.cells #[.int .i64 xi, .string xp, .int .i64 xf, .int .i64 xm] 75)).obj HB1.out (fun h => h))
          have HB2 := Lib.hid (blkAlloc w7 (.cells #[.int .i64 xi, .string xp, .int .i64 xf, .int .i64 xm] 75))
          have G7 := Lib.hid (G6.out.trans (hg.alloc (.cells #[.int .i64 xi, .string xp, .int .i64 xf, .int .i64 xm] 75)) (fun _ h => h.elim))
          clear hg
          simp only [AskV.val]
          go_wp2_with fail
          refine (ReadReply_all _ b hbs).mono ?_
          rw [HR1.out]
          rintro e w8 ⟨rfl, hg⟩
          have HB1 := Lib.hid ((hg.alloc (.cells #[.int .i64 zi, .int .i64 ze, .int .i64 zs, .string zd] 77)).obj HB1.out (fun h => h))
          have HB2 := Lib.hid ((hg.alloc (.cells #[.int .i64 zi, .int .i64 ze, .int .i64 zs, .string zd] 77)).obj HB2.out (fun h => h))
          have HB3 := Lib.hid (blkAlloc w8 (.cells #[.int .i64 zi, .int .i64 ze, .int .i64 zs, .string zd] 77))
          have G8 := Lib.hid (G7.out.trans (hg.alloc (.cells #[.int .i64 zi, .int .i64 ze, .int .i64 zs, .string zd] 77)) (fun _ h => h.elim))
          clear hg
          simp only [RepV.val]
          go_wp2_with fail
          refine (rReadReply_all _ b hbs).mono ?_
          rw [HR1.out]
          rintro e w9 ⟨rfl, hg⟩
          have HB1 := Lib.hid ((hg.alloc (.cells #[.int .i64 zi, .int .i64 ze, .int .i64 zs, .string zd] 77)).obj HB1.out (fun h => h))
          have HB2 := Lib.hid ((hg.alloc (.cells #[.int .i64 zi, .int .i64 ze, .int .i64 zs, .string zd] 77)).obj HB2.out (fun h => h))
          have HB3 := Lib.hid ((hg.alloc (.cells #[.int .i64 zi, .int .i64 ze, .int .i64 zs, .string zd] 77)).obj HB3.out (fun h => h))
          have HB4 := Lib.hid (blkAlloc w9 (.cells #[.int .i64 zi, .int .i64 ze, .int .i64 zs, .string zd] 77))
          have G9 := Lib.hid (G8.out.trans (hg.alloc (.cells #[.int .i64 zi, .int .i64 ze, .int .i64 zs, .string zd] 77)) (fun _ h => h.elim))
          clear hg
          simp only [RepV.val]
          obtain ⟨m0, m1, m2, m3⟩ := askCells HB1.out
          obtain ⟨n0, n1, n2, n3⟩ := askCells HB2.out
          obtain ⟨o0, o1, o2, o3⟩ := askCells HB3.out
          obtain ⟨p0, p1, p2, p3⟩ := askCells HB4.out
          have lt1 : w6.heap.size < w9.heap.size + 1 := by have := blkLt HB1.out; simpa using this
          have lt2 : w7.heap.size < w9.heap.size + 1 := by have := blkLt HB2.out; simpa using this
          have lt3 : w8.heap.size < w9.heap.size + 1 := by have := blkLt HB3.out; simpa using this
          go_wp2_with fail
          refine (LayAsk_all _ ⟨xi, xp, xf, xm⟩).mono ?_
          rw [HL1.out]
          rintro e w10 ⟨rfl, hg⟩
          clear m0 m1 m2 m3 n0 n1 n2 n3 o0 o1 o2 o3 p0 p1 p2 p3 lt1 lt2 lt3
          have G10 := Lib.hid (G9.out.trans hg (fun _ h => h.elim))
          obtain ⟨o0, o1, o2, o3⟩ := askCells (hg.obj HB3.out (fun h => h))
          clear hg
          go_wp2_with fail
          refine (LayReply_all _ ⟨zi, ze, zs, zd⟩ hzd).mono ?_
          rw [HL2.out]
          rintro e w11 ⟨rfl, hg⟩
          have G11 := Lib.hid (G10.out.trans hg (fun _ h => h.elim))
          clear hg
          go_wp2
          exact ⟨⟨k + 1, by omega, by go_num, ⟨G11.out⟩⟩, by simp [intOf]; omega⟩
        · have hgg : (g1 == 0) = false := beq_eq_false_iff_ne.2 hg1
          clear hA hR he1 hg1
          go_wp2_with fail
          refine (ReadAsk_all _ b hbs).mono ?_
          rw [HA1.out]
          rintro e w6 ⟨rfl, hg⟩
          have HB1 := Lib.hid (blkAlloc w6 (.cells #[.int .i64 xi, .string xp, .int .i64 xf, .int .i64 xm] 75))
          have G6 := Lib.hid (GG.out.trans (hg.alloc (.cells #[.int .i64 xi, .string xp, .int .i64 xf, .int .i64 xm] 75)) (fun _ h => h.elim))
          clear hg
          simp only [AskV.val]
          go_wp2_with fail
          refine (rReadAsk_all _ b hbs).mono ?_
          rw [HA1.out]
          rintro e w7 ⟨rfl, hg⟩
          have HB1 := Lib.hid ((hg.alloc (.cells #[.int .i64 xi, .string xp, .int .i64 xf, .int .i64 xm] 75)).obj HB1.out (fun h => h))
          have HB2 := Lib.hid (blkAlloc w7 (.cells #[.int .i64 xi, .string xp, .int .i64 xf, .int .i64 xm] 75))
          have G7 := Lib.hid (G6.out.trans (hg.alloc (.cells #[.int .i64 xi, .string xp, .int .i64 xf, .int .i64 xm] 75)) (fun _ h => h.elim))
          clear hg
          simp only [AskV.val]
          go_wp2_with fail
          refine (ReadReply_all _ b hbs).mono ?_
          rw [HR1.out]
          rintro e w8 ⟨rfl, hg⟩
          have HB1 := Lib.hid ((hg.alloc (.cells #[.int .i64 zi, .int .i64 ze, .int .i64 zs, .string zd] 77)).obj HB1.out (fun h => h))
          have HB2 := Lib.hid ((hg.alloc (.cells #[.int .i64 zi, .int .i64 ze, .int .i64 zs, .string zd] 77)).obj HB2.out (fun h => h))
          have HB3 := Lib.hid (blkAlloc w8 (.cells #[.int .i64 zi, .int .i64 ze, .int .i64 zs, .string zd] 77))
          have G8 := Lib.hid (G7.out.trans (hg.alloc (.cells #[.int .i64 zi, .int .i64 ze, .int .i64 zs, .string zd] 77)) (fun _ h => h.elim))
          clear hg
          simp only [RepV.val]
          go_wp2_with fail
          refine (rReadReply_all _ b hbs).mono ?_
          rw [HR1.out]
          rintro e w9 ⟨rfl, hg⟩
          have HB1 := Lib.hid ((hg.alloc (.cells #[.int .i64 zi, .int .i64 ze, .int .i64 zs, .string zd] 77)).obj HB1.out (fun h => h))
          have HB2 := Lib.hid ((hg.alloc (.cells #[.int .i64 zi, .int .i64 ze, .int .i64 zs, .string zd] 77)).obj HB2.out (fun h => h))
          have HB3 := Lib.hid ((hg.alloc (.cells #[.int .i64 zi, .int .i64 ze, .int .i64 zs, .string zd] 77)).obj HB3.out (fun h => h))
          have HB4 := Lib.hid (blkAlloc w9 (.cells #[.int .i64 zi, .int .i64 ze, .int .i64 zs, .string zd] 77))
          have G9 := Lib.hid (G8.out.trans (hg.alloc (.cells #[.int .i64 zi, .int .i64 ze, .int .i64 zs, .string zd] 77)) (fun _ h => h.elim))
          clear hg
          simp only [RepV.val]
          obtain ⟨m0, m1, m2, m3⟩ := askCells HB1.out
          obtain ⟨n0, n1, n2, n3⟩ := askCells HB2.out
          obtain ⟨o0, o1, o2, o3⟩ := askCells HB3.out
          obtain ⟨p0, p1, p2, p3⟩ := askCells HB4.out
          have lt1 : w6.heap.size < w9.heap.size + 1 := by have := blkLt HB1.out; simpa using this
          have lt2 : w7.heap.size < w9.heap.size + 1 := by have := blkLt HB2.out; simpa using this
          have lt3 : w8.heap.size < w9.heap.size + 1 := by have := blkLt HB3.out; simpa using this
          go_wp2_with fail
          refine (LayAsk_all _ ⟨xi, xp, xf, xm⟩).mono ?_
          rw [HL1.out]
          rintro e w10 ⟨rfl, hg⟩
          clear m0 m1 m2 m3 n0 n1 n2 n3 o0 o1 o2 o3 p0 p1 p2 p3 lt1 lt2 lt3
          have G10 := Lib.hid (G9.out.trans hg (fun _ h => h.elim))
          obtain ⟨o0, o1, o2, o3⟩ := askCells (hg.obj HB3.out (fun h => h))
          clear hg
          go_wp2_with fail
          refine (LayReply_all _ ⟨zi, ze, zs, zd⟩ hzd).mono ?_
          rw [HL2.out]
          rintro e w11 ⟨rfl, hg⟩
          have G11 := Lib.hid (G10.out.trans hg (fun _ h => h.elim))
          clear hg
          go_wp2
          exact ⟨⟨k + 1, by omega, by go_num, ⟨G11.out⟩⟩, by simp [intOf]; omega⟩
      · have he : (e1 == 0) = false := beq_eq_false_iff_ne.2 he1
        by_cases hg1 : g1 = 0
        · obtain ⟨rfl, rfl⟩ := hR hg1
          have hgg := beq_iff_eq.2 hg1
          clear hA hR he1 hg1
          go_wp2_with fail
          refine (ReadAsk_all _ b hbs).mono ?_
          rw [HA1.out]
          rintro e w6 ⟨rfl, hg⟩
          have HB1 := Lib.hid (blkAlloc w6 (.cells #[.int .i64 xi, .string xp, .int .i64 xf, .int .i64 xm] 75))
          have G6 := Lib.hid (GG.out.trans (hg.alloc (.cells #[.int .i64 xi, .string xp, .int .i64 xf, .int .i64 xm] 75)) (fun _ h => h.elim))
          clear hg
          simp only [AskV.val]
          go_wp2_with fail
          refine (rReadAsk_all _ b hbs).mono ?_
          rw [HA1.out]
          rintro e w7 ⟨rfl, hg⟩
          have HB1 := Lib.hid ((hg.alloc (.cells #[.int .i64 xi, .string xp, .int .i64 xf, .int .i64 xm] 75)).obj HB1.out (fun h => h))
          have HB2 := Lib.hid (blkAlloc w7 (.cells #[.int .i64 xi, .string xp, .int .i64 xf, .int .i64 xm] 75))
          have G7 := Lib.hid (G6.out.trans (hg.alloc (.cells #[.int .i64 xi, .string xp, .int .i64 xf, .int .i64 xm] 75)) (fun _ h => h.elim))
          clear hg
          simp only [AskV.val]
          go_wp2_with fail
          refine (ReadReply_all _ b hbs).mono ?_
          rw [HR1.out]
          rintro e w8 ⟨rfl, hg⟩
          have HB1 := Lib.hid ((hg.alloc (.cells #[.int .i64 zi, .int .i64 ze, .int .i64 zs, .string zd] 77)).obj HB1.out (fun h => h))
          have HB2 := Lib.hid ((hg.alloc (.cells #[.int .i64 zi, .int .i64 ze, .int .i64 zs, .string zd] 77)).obj HB2.out (fun h => h))
          have HB3 := Lib.hid (blkAlloc w8 (.cells #[.int .i64 zi, .int .i64 ze, .int .i64 zs, .string zd] 77))
          have G8 := Lib.hid (G7.out.trans (hg.alloc (.cells #[.int .i64 zi, .int .i64 ze, .int .i64 zs, .string zd] 77)) (fun _ h => h.elim))
          clear hg
          simp only [RepV.val]
          go_wp2_with fail
          refine (rReadReply_all _ b hbs).mono ?_
          rw [HR1.out]
          rintro e w9 ⟨rfl, hg⟩
          have HB1 := Lib.hid ((hg.alloc (.cells #[.int .i64 zi, .int .i64 ze, .int .i64 zs, .string zd] 77)).obj HB1.out (fun h => h))
          have HB2 := Lib.hid ((hg.alloc (.cells #[.int .i64 zi, .int .i64 ze, .int .i64 zs, .string zd] 77)).obj HB2.out (fun h => h))
          have HB3 := Lib.hid ((hg.alloc (.cells #[.int .i64 zi, .int .i64 ze, .int .i64 zs, .string zd] 77)).obj HB3.out (fun h => h))
          have HB4 := Lib.hid (blkAlloc w9 (.cells #[.int .i64 zi, .int .i64 ze, .int .i64 zs, .string zd] 77))
          have G9 := Lib.hid (G8.out.trans (hg.alloc (.cells #[.int .i64 zi, .int .i64 ze, .int .i64 zs, .string zd] 77)) (fun _ h => h.elim))
          clear hg
          simp only [RepV.val]
          obtain ⟨m0, m1, m2, m3⟩ := askCells HB1.out
          obtain ⟨n0, n1, n2, n3⟩ := askCells HB2.out
          obtain ⟨o0, o1, o2, o3⟩ := askCells HB3.out
          obtain ⟨p0, p1, p2, p3⟩ := askCells HB4.out
          have lt1 : w6.heap.size < w9.heap.size + 1 := by have := blkLt HB1.out; simpa using this
          have lt2 : w7.heap.size < w9.heap.size + 1 := by have := blkLt HB2.out; simpa using this
          have lt3 : w8.heap.size < w9.heap.size + 1 := by have := blkLt HB3.out; simpa using this
          go_wp2_with fail
          refine (LayAsk_all _ ⟨xi, xp, xf, xm⟩).mono ?_
          rw [HL1.out]
          rintro e w10 ⟨rfl, hg⟩
          clear m0 m1 m2 m3 n0 n1 n2 n3 o0 o1 o2 o3 p0 p1 p2 p3 lt1 lt2 lt3
          have G10 := Lib.hid (G9.out.trans hg (fun _ h => h.elim))
          obtain ⟨o0, o1, o2, o3⟩ := askCells (hg.obj HB3.out (fun h => h))
          clear hg
          go_wp2_with fail
          refine (LayReply_all _ ⟨zi, ze, zs, zd⟩ hzd).mono ?_
          rw [HL2.out]
          rintro e w11 ⟨rfl, hg⟩
          have G11 := Lib.hid (G10.out.trans hg (fun _ h => h.elim))
          clear hg
          go_wp2
          exact ⟨⟨k + 1, by omega, by go_num, ⟨G11.out⟩⟩, by simp [intOf]; omega⟩
        · have hgg : (g1 == 0) = false := beq_eq_false_iff_ne.2 hg1
          clear hA hR he1 hg1
          go_wp2_with fail
          refine (ReadAsk_all _ b hbs).mono ?_
          rw [HA1.out]
          rintro e w6 ⟨rfl, hg⟩
          have HB1 := Lib.hid (blkAlloc w6 (.cells #[.int .i64 xi, .string xp, .int .i64 xf, .int .i64 xm] 75))
          have G6 := Lib.hid (GG.out.trans (hg.alloc (.cells #[.int .i64 xi, .string xp, .int .i64 xf, .int .i64 xm] 75)) (fun _ h => h.elim))
          clear hg
          simp only [AskV.val]
          go_wp2_with fail
          refine (rReadAsk_all _ b hbs).mono ?_
          rw [HA1.out]
          rintro e w7 ⟨rfl, hg⟩
          have HB1 := Lib.hid ((hg.alloc (.cells #[.int .i64 xi, .string xp, .int .i64 xf, .int .i64 xm] 75)).obj HB1.out (fun h => h))
          have HB2 := Lib.hid (blkAlloc w7 (.cells #[.int .i64 xi, .string xp, .int .i64 xf, .int .i64 xm] 75))
          have G7 := Lib.hid (G6.out.trans (hg.alloc (.cells #[.int .i64 xi, .string xp, .int .i64 xf, .int .i64 xm] 75)) (fun _ h => h.elim))
          clear hg
          simp only [AskV.val]
          go_wp2_with fail
          refine (ReadReply_all _ b hbs).mono ?_
          rw [HR1.out]
          rintro e w8 ⟨rfl, hg⟩
          have HB1 := Lib.hid ((hg.alloc (.cells #[.int .i64 zi, .int .i64 ze, .int .i64 zs, .string zd] 77)).obj HB1.out (fun h => h))
          have HB2 := Lib.hid ((hg.alloc (.cells #[.int .i64 zi, .int .i64 ze, .int .i64 zs, .string zd] 77)).obj HB2.out (fun h => h))
          have HB3 := Lib.hid (blkAlloc w8 (.cells #[.int .i64 zi, .int .i64 ze, .int .i64 zs, .string zd] 77))
          have G8 := Lib.hid (G7.out.trans (hg.alloc (.cells #[.int .i64 zi, .int .i64 ze, .int .i64 zs, .string zd] 77)) (fun _ h => h.elim))
          clear hg
          simp only [RepV.val]
          go_wp2_with fail
          refine (rReadReply_all _ b hbs).mono ?_
          rw [HR1.out]
          rintro e w9 ⟨rfl, hg⟩
          have HB1 := Lib.hid ((hg.alloc (.cells #[.int .i64 zi, .int .i64 ze, .int .i64 zs, .string zd] 77)).obj HB1.out (fun h => h))
          have HB2 := Lib.hid ((hg.alloc (.cells #[.int .i64 zi, .int .i64 ze, .int .i64 zs, .string zd] 77)).obj HB2.out (fun h => h))
          have HB3 := Lib.hid ((hg.alloc (.cells #[.int .i64 zi, .int .i64 ze, .int .i64 zs, .string zd] 77)).obj HB3.out (fun h => h))
          have HB4 := Lib.hid (blkAlloc w9 (.cells #[.int .i64 zi, .int .i64 ze, .int .i64 zs, .string zd] 77))
          have G9 := Lib.hid (G8.out.trans (hg.alloc (.cells #[.int .i64 zi, .int .i64 ze, .int .i64 zs, .string zd] 77)) (fun _ h => h.elim))
          clear hg
          simp only [RepV.val]
          obtain ⟨m0, m1, m2, m3⟩ := askCells HB1.out
          obtain ⟨n0, n1, n2, n3⟩ := askCells HB2.out
          obtain ⟨o0, o1, o2, o3⟩ := askCells HB3.out
          obtain ⟨p0, p1, p2, p3⟩ := askCells HB4.out
          have lt1 : w6.heap.size < w9.heap.size + 1 := by have := blkLt HB1.out; simpa using this
          have lt2 : w7.heap.size < w9.heap.size + 1 := by have := blkLt HB2.out; simpa using this
          have lt3 : w8.heap.size < w9.heap.size + 1 := by have := blkLt HB3.out; simpa using this
          go_wp2_with fail
          refine (LayAsk_all _ ⟨xi, xp, xf, xm⟩).mono ?_
          rw [HL1.out]
          rintro e w10 ⟨rfl, hg⟩
          clear m0 m1 m2 m3 n0 n1 n2 n3 o0 o1 o2 o3 p0 p1 p2 p3 lt1 lt2 lt3
          have G10 := Lib.hid (G9.out.trans hg (fun _ h => h.elim))
          obtain ⟨o0, o1, o2, o3⟩ := askCells (hg.obj HB3.out (fun h => h))
          clear hg
          go_wp2_with fail
          refine (LayReply_all _ ⟨zi, ze, zs, zd⟩ hzd).mono ?_
          rw [HL2.out]
          rintro e w11 ⟨rfl, hg⟩
          have G11 := Lib.hid (G10.out.trans hg (fun _ h => h.elim))
          clear hg
          go_wp2
          exact ⟨⟨k + 1, by omega, by go_num, ⟨G11.out⟩⟩, by simp [intOf]; omega⟩
    · obtain rfl : k = 4 := by omega
      have HXA6 := Lib.hid (GG.out.obj (blkOld HXA5.out (.cells #[.string body, .string s0, .string u0, .string (s0 ++ ⟨#[120]⟩)] 9)) (fun h => h))
      have HXS6 := Lib.hid (GG.out.obj (blkOld HXS5.out (.cells #[.string body, .string s0, .string u0, .string (s0 ++ ⟨#[120]⟩)] 9)) (fun h => h))
      have HC6 := Lib.hid ((HCH5.out.alloc (.cells #[.string body, .string s0, .string u0, .string (s0 ++ ⟨#[120]⟩)] 9)).trans GG.out (fun _ h => h.elim))
      by_cases he0 : e0 = 0
      · subst he0
        have HT := Lib.hid (told_ask HLA.out HA.out)
        go_wp2_with fail
        refine (closure_calls _ _ _ s0 ⟨aid, apath, afr, amost⟩ (by omega) HT.out (by exact HXS6.out) (by exact HXA6.out)).mono ?_
        rintro e w12 ⟨rfl, hg⟩
        have HC7 := Lib.hid (HC6.out.trans hg (fun _ h => h.elim))
        clear hg
        go_wp2
        go_ret
        exact ⟨rfl, HC7.out⟩
      · have he : (e0 != 0) = true := by simp [he0]
        clear he0
        go_wp2
        go_ret
        exact ⟨rfl, HC6.out⟩
end Go.Proofs.Ytjlkflbkejpcaaa

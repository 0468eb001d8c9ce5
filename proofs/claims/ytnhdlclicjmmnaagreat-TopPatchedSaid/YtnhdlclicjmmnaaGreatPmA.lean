/- TopPatched: fetch's read, where the cell has a download. -/
import Derived.Test.YtnhdlclicjmmnaaGreatPdE
import Derived.Test.YtnhdlclicjmmnaaGreatPeM
import Derived.Test.YtnhdlclicjmmnaaGreatPkA
import Derived.Deep.DeepCutAuto
import Derived.Deep.Cut
namespace Go.Proofs.YtnhdlclicjmmnaaGreat
open Go.RowKit Go.Lib Go.Shelf Go.Maps
/-- A download's cells. -/
def fetC (c : Nat) (v z cc : Int) (h t : ByteArray) (ch hv dv : Value) : Array Value := #[.pointer (some ⟨c, 0, none⟩), .int .i64 v, .int .i64 z, .int .i64 cc, .string h, .string t, ch, hv, dv]
theorem fetSet {w : World} {f : Nat} {p a1 a2 a3 a4 a5 a6 a7 a8 : Value} {T : TypeId} (h : w.heap[f]? = some (.cells #[p, a1, a2, a3, a4, a5, a6, a7, a8] T (0, 0))) (b1 b2 b3 b4 b5 b6 b7 b8 : Value) :
    ((((((((w.setCell ⟨f, 1, none⟩ b1).setCell ⟨f, 2, none⟩ b2).setCell ⟨f, 3, none⟩ b3).setCell ⟨f, 4, none⟩ b4).setCell ⟨f, 5, none⟩ b5).setCell ⟨f, 6, none⟩ b6).setCell ⟨f, 7, none⟩ b7).setCell ⟨f, 8, none⟩ b8).heap[f]? = some (.cells #[p, b1, b2, b3, b4, b5, b6, b7, b8] T (0, 0)) ∧
      Chg (fun k => k = f) w ((((((((w.setCell ⟨f, 1, none⟩ b1).setCell ⟨f, 2, none⟩ b2).setCell ⟨f, 3, none⟩ b3).setCell ⟨f, 4, none⟩ b4).setCell ⟨f, 5, none⟩ b5).setCell ⟨f, 6, none⟩ b6).setCell ⟨f, 7, none⟩ b7).setCell ⟨f, 8, none⟩ b8) := by
  have h1 := blkSet h 1 b1
  have h2 := blkSet h1 2 b2
  have h3 := blkSet h2 3 b3
  have h4 := blkSet h3 4 b4
  have h5 := blkSet h4 5 b5
  have h6 := blkSet h5 6 b6
  have h7 := blkSet h6 7 b7
  have h8 := blkSet h7 8 b8
  exact ⟨by simpa using h8, ((((((((Chg.refl (fun k => k = f) w).cellOf 1 b1).cellOf 2 b2).cellOf 3 b3).cellOf 4 b4).cellOf 5 b5).cellOf 6 b6).cellOf 7 b7).cellOf 8 b8⟩
theorem SRow.arr {w : World} {A : Option Addr} {n c : Nat} {r : Option Nat} {l : List ByteArray} (h : TRow w (.slice A n c) r l) (h0 : 0 < l.length) : ∃ g, A = some ⟨g, 0, none⟩ := by
  obtain ⟨g, _, hA, _⟩ := SRow.at_ h h0
  exact ⟨g, hA⟩
/-- .. and there is room behind it. -/
theorem FB.made2 (w : World) (s : ByteArray) : ∃ v w', (convert 9 22 (.string s)).run Tryz.prog w = .ok v w' ∧ FB w' v w.heap.size s.data.toList ∧ Chg (fun _ => False) w w' ∧ w'.heap.size = w.heap.size + 1 ∧ ∀ a n c, v = .slice a n c → n ≤ c := by
  obtain ⟨v, w', h1, h2, h3, h4⟩ := FB.made w s
  refine ⟨v, w', h1, h2, h3, h4, fun a n c e => ?_⟩
  have h5 := Lib.run_convert_string_bytes (P := Tryz.prog) w 9 22 5 s Tryz.underlying9 Tryz.underlying22 Tryz.underlying5
  rw [h1] at h5
  injection h5 with h5 _
  rw [e] at h5
  injection h5 with _ h6 h7
  rw [h6, h7]
  exact grownCap_ge _ _ _ _
set_option maxRecDepth 100000 in
set_option maxHeartbeats 1000000 in
theorem fread_calls (w : World) (f c mn : Nat) (x1 x2 x3 : Int) (x4 x5 : ByteArray) (A6 A7 A8 : Option Addr) (n6 n7 n8 k6 k7 k8 : Nat) (v z cc : Int) (h t : ByteArray) (l : List ByteArray) (hvs dvs : List UInt8) (hf : w.heap[f]? = some (.cells (fetC c x1 x2 x3 x4 x5 (.slice A6 n6 k6) (.slice A7 n7 k7) (.slice A8 n8 k8)) 85 (0, 0)))
    (cs : Array Value) (hc : w.heap[c]? = some (.cells cs 115 (0, 0))) (h3 : cs[3]? = some (.map (some mn))) (hm : MapAt w mn (dlM (strOf (preB v z cc h t ++ catS l)) (strOf dvs) (strOf hvs))) (g : GoodB v z cc h t l) (hhl : hvs.length = l.length) (hdl : (dvs.length : Int) = z) (hb : hvs.any badH = false) :
    Calls Tryz.prog 37 #[.pointer (some ⟨f, 0, none⟩)] w fun e w' => e = .returned (.tuple #[]) ∧ ∃ A cap r gh ch gd cd, w'.heap[f]? = some (.cells (fetC c v z cc h t (.slice A l.length cap) (.slice (some ⟨gh, 0, none⟩) hvs.length ch) (.slice (some ⟨gd, 0, none⟩) dvs.length cd)) 85 (0, 0)) ∧
      TRow w' (.slice A l.length cap) r l ∧ (∀ k, r = some k → w.heap.size ≤ k) ∧ FB w' (.slice (some ⟨gh, 0, none⟩) hvs.length ch) gh hvs ∧ FB w' (.slice (some ⟨gd, 0, none⟩) dvs.length cd) gd dvs ∧ w.heap.size ≤ gh ∧ w.heap.size ≤ gd ∧ gh ≠ gd ∧ Chg (fun k => k = f) w w' ∧ dvs.length ≤ cd := by
  obtain ⟨a1, a2, a3, a4, b1, b2, a6, a7, a8⟩ := g.rng
  obtain ⟨hl32, hcnt, hroot⟩ := g.all
  have hcat := catS_32 l hl32
  have sS : (strOf (preB v z cc h t ++ catS l)).size ≤ 65535 := by rw [strOf_size, List.length_append, preB_len v z cc h t a6 a7, hcat]; omega
  have sD : (strOf dvs).size ≤ 65535 := by rw [strOf_size]; omega
  have sH : (strOf hvs).size ≤ 65535 := by rw [strOf_size]; omega
  have hR := dlM_read (strOf (preB v z cc h t ++ catS l)) (strOf dvs) (strOf hvs) sS sD sH
  have CR := Lib.hid (fun w => bRead_good w v z cc h t l g)
  obtain ⟨S, hS⟩ : ∃ S, strOf (preB v z cc h t ++ catS l) = S := ⟨_, rfl⟩
  obtain ⟨D, hD⟩ : ∃ D, strOf dvs = D := ⟨_, rfl⟩
  obtain ⟨H, hH⟩ : ∃ H, strOf hvs = H := ⟨_, rfl⟩
  rw [hS] at CR hm hR sS
  rw [hD] at hm hR sD
  rw [hH] at hm hR sH
  have GB := Lib.hid (get_b S D H)
  have GD := Lib.hid (get_d S D H)
  have GH := Lib.hid (get_h S D H)
  have HLEN : Hid ((dlM S D H).length = 3) := Lib.hid rfl
  obtain ⟨M, hM⟩ : ∃ M, dlM S D H = M := ⟨_, rfl⟩
  rw [hM] at hm hR GB GD GH HLEN
  have HR := Lib.hid hR
  have hcf : c ≠ f := blkNe hc hf (by decide)
  have hnf : mn ≠ f := hm.ne hf
  have c0 : w.cell? ⟨f, 0, none⟩ = some (.pointer (some ⟨c, 0, none⟩)) := blkCell hf 0
  have y1 : w.cell? ⟨f, 1, none⟩ = some (.int .i64 x1) := blkCell hf 1
  have y2 : w.cell? ⟨f, 2, none⟩ = some (.int .i64 x2) := blkCell hf 2
  have y3 : w.cell? ⟨f, 3, none⟩ = some (.int .i64 x3) := blkCell hf 3
  have y4 : w.cell? ⟨f, 4, none⟩ = some (.string x4) := blkCell hf 4
  have y5 : w.cell? ⟨f, 5, none⟩ = some (.string x5) := blkCell hf 5
  have y6 : w.cell? ⟨f, 6, none⟩ = some (.slice A6 n6 k6) := blkCell hf 6
  have y7 : w.cell? ⟨f, 7, none⟩ = some (.slice A7 n7 k7) := blkCell hf 7
  have y8 : w.cell? ⟨f, 8, none⟩ = some (.slice A8 n8 k8) := blkCell hf 8
  have e1 := blkFree hf 1
  have e2 := blkFree hf 2
  have e3 := blkFree hf 3
  have e4 := blkFree hf 4
  have e5 := blkFree hf 5
  have e6 := blkFree hf 6
  have e7 := blkFree hf 7
  have e8 := blkFree hf 8
  have hmm := @run_makeMap Tryz.prog
  have HF := Lib.hid hf
  have HC := Lib.hid hc
  have H3 := Lib.hid h3
  have HM := Lib.hid hm
  have G := Lib.hid g
  clear hf hc h3 hm g hR hS hcnt hroot hl32 hcat
  go_enter Tryz.func37, Tryz.ntmps37
  go_upto_region 2 with fail
  obtain ⟨hb1, hc1⟩ := fetSet HF.out (.int .i64 0) (.int .i64 0) (.int .i64 0) (.string ⟨#[]⟩) (.string ⟨#[]⟩) (.slice none 0 0) (.slice none 0 0) (.slice none 0 0)
  obtain ⟨W0, hW0⟩ : ∃ W0, ((((((((w.setCell ⟨f, 1, none⟩ (.int .i64 0)).setCell ⟨f, 2, none⟩ (.int .i64 0)).setCell ⟨f, 3, none⟩ (.int .i64 0)).setCell ⟨f, 4, none⟩ (.string ⟨#[]⟩)).setCell ⟨f, 5, none⟩ (.string ⟨#[]⟩)).setCell ⟨f, 6, none⟩ (.slice none 0 0)).setCell ⟨f, 7, none⟩ (.slice none 0 0)).setCell ⟨f, 8, none⟩ (.slice none 0 0)) = W0 := ⟨_, rfl⟩
  rw [hW0] at hb1 hc1 ⊢
  have hz0 : W0.heap.size = w.heap.size := by rw [← hW0]; simp [World.setCell]
  rw [← hz0]
  clear hW0 y1 y2 y3 y4 y5 y6 y7 y8 e1 e2 e3 e4 e5 e6 e7 e8 c0 hmm
  have hS1 : MapS (W0.alloc (.map #[] 0)) W0.heap.size [] := MapS.made W0
  have hM1 := (HM.out.chg hc1 hnf).chg ((Chg.refl (fun _ => False) W0).alloc (.map #[] 0)) (fun h => h)
  have hf1 := blkOld hb1 (.map #[] 0)
  have hcc1 := blkOld (hc1.obj HC.out hcf) (.map #[] 0)
  have hg1 := hc1.alloc (.map #[] 0)
  obtain ⟨m, hmm⟩ : ∃ m, W0.heap.size = m := ⟨_, rfl⟩
  obtain ⟨W1, hW1⟩ : ∃ W1, W0.alloc (.map #[] 0) = W1 := ⟨_, rfl⟩
  rw [hmm] at hS1 hz0
  rw [hW1] at hS1 hM1 hf1 hcc1 hg1
  simp only [hmm]
  simp only [hW1]
  have c0 : W1.cell? ⟨f, 0, none⟩ = some (.pointer (some ⟨c, 0, none⟩)) := blkCell hf1 0
  have CN := Lib.hid (Names_calls W1 c mn M ((blkCell hcc1 3).trans H3.out) hM1 HR.out.good.rising (by rw [HLEN.out]; decide))
  rw [HLEN.out] at CN
  have HF1 := Lib.hid hf1
  have HC1 := Lib.hid hcc1
  have HM1 := Lib.hid hM1
  have HS1 := Lib.hid hS1
  have HG1 := Lib.hid hg1
  have HZ0 := Lib.hid hz0
  clear hW1 hmm hb1 hc1 hS1 hM1 hf1 hcc1 hg1 hz0
  go_wp2_with (go_at_call 65; (with_reducible refine CN.out.mono ?_); rintro e w2 ⟨A, cp, r, rfl, hrow, hrn, hg2⟩; have HROW := Lib.hid hrow; have HG2 := Lib.hid hg2; clear hrow hrn hg2)
  have hml : m < W1.heap.size := by have := HS1.out.lt; exact this
  have hfm : f ≠ m := fun e => HS1.out.ne HF1.out e.symm
  have hcm : c ≠ m := fun e => HS1.out.ne HC1.out e.symm
  have hnm : mn ≠ m := fun e => by have := HM.out.lt; have := HZ0.out; omega
  have hf2 := HG2.out.obj HF1.out (fun h => h)
  have hc2 := HG2.out.obj HC1.out (fun h => h)
  have hm2 := HM1.out.chg HG2.out (fun h => h)
  have hs2 := HS1.out.chg HG2.out (fun h => h)
  have hrm : r ≠ some m := fun e => by
    obtain ⟨_, cs', hcs⟩ := SRow.lt HROW.out e
    exact hs2.ne hcs rfl
  obtain ⟨ga, rfl⟩ := SRow.arr HROW.out (by rw [keysM, List.length_map, HLEN.out]; decide)
  have HF2 := Lib.hid hf2
  have HC2 := Lib.hid hc2
  have HM2 := Lib.hid hm2
  have HS2 := Lib.hid hs2
  have HRM := Lib.hid hrm
  have HKL : Hid (∀ p ∈ M, p.1.size ≤ 32 ∧ p.2.size ≤ 65535) := Lib.hid (fun p hp => ⟨(HR.out.good.names p hp).2, HR.out.good.texts p hp⟩)
  clear c0 hf2 hc2 hm2 hs2 hrm CN
  go_loopw [29] (fun v wr => ∃ k : Nat, k ≤ 3 ∧ v = .int .i64 k ∧ HD (MapS wr m (M.take k)) ∧ HD (Chg (fun j => j = m) w2 wr)) (fun v _ => 3 - (intOf v).toNat)
  case atStart => exact ⟨0, by omega, rfl, ⟨HS2.out⟩, ⟨Chg.refl _ _⟩⟩
  case round =>
    obtain ⟨k, hk, rfl, HS, HG⟩ := hrel
    obtain ⟨wa, rfl⟩ : ∃ wa, wa = wr := ⟨_, rfl⟩
    have HFA := Lib.hid (HG.out.obj HF2.out hfm)
    have HCA := Lib.hid (HG.out.obj HC2.out hcm)
    have HMA := Lib.hid (HM2.out.chg HG.out hnm)
    have c0 : wa.cell? ⟨f, 0, none⟩ = some (.pointer (some ⟨c, 0, none⟩)) := blkCell HFA.out 0
    by_cases hlt : k < 3
    · obtain ⟨p, hp⟩ : ∃ p, M[k]? = some p := ⟨_, List.getElem?_eq_getElem (by rw [HLEN.out]; exact hlt)⟩
      obtain ⟨s1, s2⟩ := HKL.out p (List.mem_of_getElem? hp)
      have hget := HR.out.good.get k p hp
      have HPUT := Lib.hid (HR.out.put k p hp)
      have d0 := TRow.cell (HROW.out.chg HG.out (fun j hj e => HRM.out (by rw [hj, e]))) k p.1 (by simp [keysM, hp])
      have CG := Lib.hid (Get_calls wa c mn M p.1 ((blkCell HCA.out 3).trans H3.out) HMA.out (by omega))
      rw [hget] at CG
      simp only [Option.getD_some, Option.isSome_some] at CG
      have q0 : (0 : Int) ≤ (k : Int) := by omega
      have q1 : (k : Int) < 3 := by omega
      obtain ⟨nm, tx⟩ := p
      clear hget hp
      go_wp2_with (go_at_call 66; (with_reducible refine CG.out.mono ?_); rintro e w4 ⟨rfl, hg4⟩; have hs4 := HS.out.chg hg4 (fun h => h); obtain ⟨w5, hput, hs5, hg5⟩ := hs4.put nm tx (by have : nm.size ≤ 32 := s1; omega) HPUT.out (by rw [List.length_take]; omega) (by have : tx.size ≤ 65535 := s2; simp only [maxLen]; omega); have HS5 := Lib.hid hs5; have HG5 := Lib.hid ((HG.out.trans hg4 (fun _ h => h.elim)).trans hg5 (fun _ h => .inl h)); clear hs4 hs5 hg5 hg4)
      exact ⟨⟨k + 1, by omega, by go_num, ⟨HS5.out⟩, ⟨HG5.out⟩⟩, by simp [intOf]; omega⟩
    · obtain rfl : k = 3 := by omega
      have hMt : M.take 3 = M := List.take_of_length_le (by rw [HLEN.out]; exact Nat.le_refl _)
      have hsA : MapS wa m M := by rw [← hMt]; exact HS.out
      have HSA := Lib.hid hsA
      have hL1 : (Instr.lookup 118 (.map (some m)) (.string ⟨#[98, 105, 108, 108]⟩) false).run Tryz.prog wa = .ok (.string S) wa := by
        have := hsA.look1 kB (by decide)
        rw [GB.out] at this
        exact this
      have KB := Lib.hid (fun (w' : World) (hg : Chg (fun _ => False) wa w') => (HSA.out.chg hg (fun h => h) : MapS w' m M))
      have LD := Lib.hid (fun (w' : World) (q : MapS w' m M) => (by
        have := q.look kD (by decide)
        rw [GD.out] at this
        exact this : (Instr.lookup 118 (.map (some m)) (.string ⟨#[100, 97, 116, 97]⟩) true).run Tryz.prog w' = .ok (.tuple #[.string D, .bool true]) w'))
      have LD1 := Lib.hid (fun (w' : World) (q : MapS w' m M) => (by
        have := q.look1 kD (by decide)
        rw [GD.out] at this
        exact this : (Instr.lookup 118 (.map (some m)) (.string ⟨#[100, 97, 116, 97]⟩) false).run Tryz.prog w' = .ok (.string D) w'))
      have LH1 := Lib.hid (fun (w' : World) (q : MapS w' m M) => (by
        have := q.look1 kH (by decide)
        rw [GH.out] at this
        exact this : (Instr.lookup 118 (.map (some m)) (.string ⟨#[104, 97, 118, 101]⟩) false).run Tryz.prog w' = .ok (.string H) w'))
      have LN := Lib.hid (fun (w' : World) (q : MapS w' m M) (ty : TypeId) => (by
        have := q.len ty
        rw [HLEN.out] at this
        exact this : (Builtin.len_ #[118] ty #[.map (some m)]).run Tryz.prog w' = .ok (.int .i64 3) w'))
      have HHB : Hid (H.data.toList = hvs) := Lib.hid (by rw [← hH]; exact strOf_list hvs)
      have HDB : Hid (D.data.toList = dvs) := Lib.hid (by rw [← hD]; exact strOf_list dvs)
      clear hMt hsA hk hlt c0
      go_wp2_with fail
      refine (CR.out wa).mono ?_
      rintro e w6 ⟨A1, cap1, r1, rfl, hrow1, hr1, hg6⟩
      have HROW1 := Lib.hid hrow1
      have HR1 := Lib.hid hr1
      have HG6 := Lib.hid hg6
      obtain ⟨W7, hW7⟩ : ∃ W7, w6.alloc (.cells #[.int .i64 v, .int .i64 z, .int .i64 cc, .string h, .string t, .slice A1 l.length cap1] 27) = W7 := ⟨_, rfl⟩
      have hg7 : Chg (fun _ => False) wa W7 := by rw [← hW7]; exact hg6.alloc _
      have hL2 := LD.out W7 (KB.out W7 hg7)
      obtain ⟨bb, hbb⟩ : ∃ bb, w6.heap.size = bb := ⟨_, rfl⟩
      have hB7 : W7.heap[bb]? = some (.cells #[.int .i64 v, .int .i64 z, .int .i64 cc, .string h, .string t, .slice A1 l.length cap1] 27 (0, 0)) := by rw [← hW7, ← hbb]; exact blkAlloc w6 _
      have hR7 : TRow W7 (.slice A1 l.length cap1) r1 l := by rw [← hW7]; exact HROW1.out.chg ((Chg.refl (fun _ => False) w6).alloc _) (fun _ _ h => h)
      have HB7 := Lib.hid hB7
      have HR7 := Lib.hid hR7
      have HG7 := Lib.hid hg7
      clear hrow1 hr1 hg6 hL1 hB7 hR7 hg7
      go_wp2_with fail
      clear hL2 hW7 hbb
      have hM7 := KB.out W7 HG7.out
      have hd1 := LH1.out W7.drew hM7
      have hd2 := LD1.out W7.drew hM7
      obtain ⟨vh, Wh, hvh, hfh, hgh, hzh⟩ := FB.made W7.drew H
      obtain ⟨vd, Wd, hvd, hfd, hgd, hzd, hkd⟩ := FB.made2 W7.drew D
      have hd3 := LD1.out Wh (KB.out Wh ((HG7.out.drew).trans hgh (fun _ h => h.elim)))
      have hd4 := LH1.out Wd (KB.out Wd ((HG7.out.drew).trans hgd (fun _ h => h.elim)))
      obtain ⟨vd2, Whd, hvd2, hfd2, hgd2, _, hkd2⟩ := FB.made2 Wh D
      obtain ⟨vh2, Wdh, hvh2, hfh2, hgh2, _⟩ := FB.made Wd H
      rw [HHB.out] at hfh hfh2
      rw [HDB.out] at hfd hfd2
      have F1 := Lib.hid hfh
      have F2 := Lib.hid hfd
      have F3 := Lib.hid hfd2
      have F4 := Lib.hid hfh2
      have G1 := Lib.hid hgh
      have G2 := Lib.hid hgd
      have G3 := Lib.hid hgd2
      have G4 := Lib.hid hgh2
      have Z1 := Lib.hid hzh
      have Z2 := Lib.hid hzd
      have X2 := Lib.hid hkd
      have X3 := Lib.hid hkd2
      clear hfh hfd hfd2 hfh2 hgh hgd hgd2 hgh2 hzh hzd hM7 hkd hkd2
      go_cut [9, 10] (fun x y wx => HD (∃ gh ch gd cd, x = .slice (some ⟨gh, 0, none⟩) hvs.length ch ∧ y = .slice (some ⟨gd, 0, none⟩) dvs.length cd ∧ FB wx x gh hvs ∧ FB wx y gd dvs ∧ W7.heap.size ≤ gh ∧ W7.heap.size ≤ gd ∧ gh ≠ gd ∧ Chg (fun _ => False) W7 wx ∧ dvs.length ≤ cd))
      case first =>
        obtain ⟨k1, hk1⟩ := F1.out.shape
        obtain ⟨k2, hk2⟩ := F2.out.shape
        obtain ⟨k3, hk3⟩ := F3.out.shape
        obtain ⟨k4, hk4⟩ := F4.out.shape
        have HK1 := Lib.hid hk1
        have HK2 := Lib.hid hk2
        have HK3 := Lib.hid hk3
        have HK4 := Lib.hid hk4
        clear hk1 hk2 hk3 hk4
        go_region
        · go_wp2_with fail
          go_meet
          have hsz : W7.drew.heap.size = W7.heap.size := rfl
          have h1 := Z1.out
          exact ⟨_, k1, _, k3, HK1.out, HK3.out, F1.out.chg G3.out (fun h => h), F3.out, Nat.le_of_eq hsz.symm, by omega, by omega, ((Chg.refl (fun _ => False) W7).drew.trans G1.out (fun _ h => h.elim)).trans G3.out (fun _ h => h.elim), X3.out _ _ _ HK3.out⟩
        · go_wp2_with fail
          go_meet
          have hsz : W7.drew.heap.size = W7.heap.size := rfl
          have h1 := Z2.out
          exact ⟨_, k4, _, k2, HK4.out, HK2.out, F4.out, F2.out.chg G4.out (fun h => h), by omega, Nat.le_of_eq hsz.symm, by omega, ((Chg.refl (fun _ => False) W7).drew.trans G2.out (fun _ h => h.elim)).trans G4.out (fun _ h => h.elim), X2.out _ _ _ HK2.out⟩
      case rest =>
        obtain ⟨gh, ch, gd, cd, rfl, rfl, FH, FD, zh, zd, zn, g8, zc⟩ := hcut.out
        obtain ⟨w8, rfl⟩ : ∃ w8, w8 = wc := ⟨_, rfl⟩
        have HFH := Lib.hid FH
        have ZC := Lib.hid zc
        have HFD := Lib.hid FD
        have HG8 := Lib.hid g8
        have HB8 := Lib.hid (g8.obj HB7.out (fun h => h))
        have hl8 := LN.out w8 (KB.out w8 (HG7.out.trans g8 (fun _ h => h.elim))) 3
        have b5 : w8.cell? ⟨bb, 5, none⟩ = some (.slice A1 l.length cap1) := blkCell HB8.out 5
        have b1' : w8.cell? ⟨bb, 1, none⟩ = some (.int .i64 z) := blkCell HB8.out 1
        have CC := Lib.hid (conH_calls w8 (.slice (some ⟨gh, 0, none⟩) hvs.length ch) gh hvs FH (by omega))
        rw [hb] at CC
        have hlp : 0 < l.length := List.length_pos_iff.2 G.out.ne
        have d1 : ((hvs.length : Int) == (l.length : Int)) = true := by rw [hhl]; simp
        have d2 : ((dvs.length : Int) == z) = true := by rw [hdl]; simp
        have HHL := Lib.hid hhl
        have HDL := Lib.hid hdl
        have HZ := Lib.hid (show W7.heap.size ≤ gh ∧ W7.heap.size ≤ gd ∧ gh ≠ gd from ⟨zh, zd, zn⟩)
        clear FH FD zh zd zn g8 zc hvh hvd hvd2 hvh2 hd1 hd2 hd3 hd4 hcut hhl hdl hb
        go_wp2_with fail
        (with_reducible refine CC.out.mono ?_)
        rintro e w9 ⟨rfl, hg9⟩
        have HG9 := Lib.hid (HG8.out.trans hg9 (fun _ h => h.elim))
        have HG89 := Lib.hid hg9
        have HB9 := Lib.hid (HG9.out.obj HB7.out (fun h => h))
        have HF9 := Lib.hid (HG9.out.obj (HG7.out.obj HFA.out (fun h => h)) (fun h => h))
        have p0 : w9.cell? ⟨bb, 0, none⟩ = some (.int .i64 v) := blkCell HB9.out 0
        have p1 : w9.cell? ⟨bb, 1, none⟩ = some (.int .i64 z) := blkCell HB9.out 1
        have p2 : w9.cell? ⟨bb, 2, none⟩ = some (.int .i64 cc) := blkCell HB9.out 2
        have p3 : w9.cell? ⟨bb, 3, none⟩ = some (.string h) := blkCell HB9.out 3
        have p4 : w9.cell? ⟨bb, 4, none⟩ = some (.string t) := blkCell HB9.out 4
        have p5 : w9.cell? ⟨bb, 5, none⟩ = some (.slice A1 l.length cap1) := blkCell HB9.out 5
        have y1 : w9.cell? ⟨f, 1, none⟩ = some (.int .i64 0) := blkCell HF9.out 1
        have y2 : w9.cell? ⟨f, 2, none⟩ = some (.int .i64 0) := blkCell HF9.out 2
        have y3 : w9.cell? ⟨f, 3, none⟩ = some (.int .i64 0) := blkCell HF9.out 3
        have y4 : w9.cell? ⟨f, 4, none⟩ = some (.string ⟨#[]⟩) := blkCell HF9.out 4
        have y5 : w9.cell? ⟨f, 5, none⟩ = some (.string ⟨#[]⟩) := blkCell HF9.out 5
        have y6 : w9.cell? ⟨f, 6, none⟩ = some (.slice none 0 0) := blkCell HF9.out 6
        have y7 : w9.cell? ⟨f, 7, none⟩ = some (.slice none 0 0) := blkCell HF9.out 7
        have y8 : w9.cell? ⟨f, 8, none⟩ = some (.slice none 0 0) := blkCell HF9.out 8
        have e1 := blkFree HF9.out 1
        have e2 := blkFree HF9.out 2
        have e3 := blkFree HF9.out 3
        have e4 := blkFree HF9.out 4
        have e5 := blkFree HF9.out 5
        have e6 := blkFree HF9.out 6
        have e7 := blkFree HF9.out 7
        have e8 := blkFree HF9.out 8
        clear hg9 CC hl8 b5 b1' d1 d2
        go_wp2_with fail
        go_end0
        obtain ⟨hbF, hcF⟩ := fetSet HF9.out (.int .i64 v) (.int .i64 z) (.int .i64 cc) (.string h) (.string t) (.slice A1 l.length cap1) (.slice (some ⟨gh, 0, none⟩) hvs.length ch) (.slice (some ⟨gd, 0, none⟩) dvs.length cd)
        have hfw : f < w.heap.size := blkLt HF.out
        have hms : w.heap.size ≤ m := Nat.le_of_eq HZ0.out.symm
        have s1 := HG1.out.size
        have s2 := HG2.out.size
        have s3 := HG.out.size
        have s7 := HG7.out.size
        obtain ⟨z1, z2, z3⟩ := HZ.out
        have g9' := HG89.out
        refine ⟨rfl, A1, cap1, r1, gh, ch, gd, cd, hbF, ?_, fun k hk => ?_, ?_, ?_, by omega, by omega, z3, ?_, ZC.out⟩
        · exact (HR7.out.chg HG9.out (fun _ _ h => h)).chg hcF (fun k hk e => by have := HR1.out k hk; omega)
        · have := HR1.out k hk; omega
        · exact (HFH.out.chg g9' (fun h => h)).chg hcF (by omega)
        · exact (HFD.out.chg g9' (fun h => h)).chg hcF (by omega)
        · exact ((((HG1.out.trans HG2.out (fun _ h => h.elim)).trans HG.out (fun k e => .inr (by rw [e]; exact hms))).trans HG7.out (fun _ h => h.elim)).trans HG9.out (fun _ h => h.elim)).trans hcF (fun _ h => .inl h)
end Go.Proofs.YtnhdlclicjmmnaaGreat

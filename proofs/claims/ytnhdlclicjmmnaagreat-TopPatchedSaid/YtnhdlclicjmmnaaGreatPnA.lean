/- TopPatched: the law's walk. -/
import Derived.Test.YtnhdlclicjmmnaaGreatPmI
import Derived.Test.YtnhdlclicjmmnaaGreatPjC
import Derived.Test.YtnhdlclicjmmnaaGreatPiC
import Derived.Test.YtnhdlclicjmmnaaGreatPjD
import Derived.Test.YtnhdlclicjmmnaaGreatPdG
import Derived.BigQuiet
import Derived.Deep.DeepCutAuto
namespace Go.Proofs.YtnhdlclicjmmnaaGreat
open Go.RowKit Go.Lib Go.Shelf Go.Maps
/-- Bytes that came in. -/
def BIn (w : World) (A : Option Addr) (l : List UInt8) : Prop :=
  l.length ≤ 9223372036854775807 ∧ (0 < l.length → ∃ a, A = some a ∧ ∀ (j : Nat) (b : UInt8), l[j]? = some b → w.cell? (a.add j) = some (.int .u8 b.toNat))
theorem BIn.chg {w w1 : World} {A : Option Addr} {l : List UInt8} (h : BIn w A l) (g : Chg (fun _ => False) w w1) : BIn w1 A l :=
  ⟨h.1, fun h0 => by
    obtain ⟨a, ha, hc⟩ := h.2 h0
    exact ⟨a, ha, fun j b hb => cellChg (hc j b hb) g (fun h => h)⟩⟩
theorem BIn.at {w : World} {a : Addr} {l : List UInt8} (h : BIn w (some a) l) {j : Nat} {b : UInt8} (hb : l[j]? = some b) : w.cell? (a.add j) = some (.int .u8 b.toNat) := by
  obtain ⟨a', e, hc⟩ := h.2 (by have := (List.getElem?_eq_some_iff.1 hb).1; omega)
  injection e with e
  rw [e]
  exact hc j b hb
theorem IRow.cell {w : World} {g n c : Nat} {r : Option Nat} {l : List Nat} (h : IRow w (.slice (some ⟨g, 0, none⟩) n c) r l) (j : Nat) (x : Nat) (hj : l[j]? = some x) : w.cell? ⟨g, j, none⟩ = some (.int .i64 x) := by
  have := (SRow.cell h encI_len j 0 x hj (by omega) (.int .i64 x) rfl).1
  rwa [Nat.mul_one, Nat.add_zero] at this
set_option maxRecDepth 100000 in
set_option maxHeartbeats 4000000 in
theorem patched_calls (w : World) (old image : ByteArray) (ho : old.size ≤ 140737488351232) (hi : image.size ≤ 140737488351232) (A1 A2 : Option Addr) (c1 c2 : Nat) (cuts order : List UInt8) (h1 : BIn w A1 cuts) (h2 : BIn w A2 order) (hc1 : cuts.length ≤ c1) (hc2 : order.length ≤ c2) :
    Calls Tryz.prog 3 #[.string old, .string image, .agg #[.slice A1 cuts.length c1, .slice A2 order.length c2]] w fun e w' => e = .returned (.bool true) ∧ Chg (fun _ => False) w w' := by
  obtain ⟨n1, hn1⟩ : ∃ n1 : Nat, n1 = min old.size 2000 := ⟨_, rfl⟩
  obtain ⟨n2, hn2⟩ : ∃ n2 : Nat, n2 = min image.size 2000 := ⟨_, rfl⟩
  have M1 : ∀ (ts : Array TypeId) (T : TypeId) (w : World), (Builtin.min_ ts T #[.int .i64 (old.size : Int), .int .i64 2000]).run Tryz.prog w = .ok (.int .i64 (n1 : Int)) w := fun ts T w => by
    rw [show (n1 : Int) = if (2000 : Int) < (old.size : Int) then 2000 else (old.size : Int) by split <;> omega]
    exact run_min_int2 w ts T _ _ _ _
  have M2 : ∀ (ts : Array TypeId) (T : TypeId) (w : World), (Builtin.min_ ts T #[.int .i64 (image.size : Int), .int .i64 2000]).run Tryz.prog w = .ok (.int .i64 (n2 : Int)) w := fun ts T w => by
    rw [show (n2 : Int) = if (2000 : Int) < (image.size : Int) then 2000 else (image.size : Int) by split <;> omega]
    exact run_min_int2 w ts T _ _ _ _
  have k1 : (0 : Int) ≤ (n1 : Int) := by omega
  have k2 : (n1 : Int) ≤ (old.size : Int) := by omega
  have k3 : (0 : Int) ≤ (n2 : Int) := by omega
  have k4 : (n2 : Int) ≤ (image.size : Int) := by omega
  have HN := Lib.hid (And.intro hn1 hn2)
  obtain ⟨O, hO⟩ : ∃ O, old.extract 0 n1 = O := ⟨_, rfl⟩
  obtain ⟨X, hX⟩ : ∃ X, (⟨#[105]⟩ : ByteArray) ++ image.extract 0 n2 = X := ⟨_, rfl⟩
  have HOX : Hid (O.size ≤ 2000 ∧ 1 ≤ X.size ∧ X.size ≤ 2001) := Lib.hid (by
    rw [← hO, ← hX, ByteArray.size_append, ByteArray.size_extract, ByteArray.size_extract, show (⟨#[105]⟩ : ByteArray).size = 1 from rfl]
    omega)
  have HH1 := Lib.hid h1
  have HH2 := Lib.hid h2
  have HC := Lib.hid (And.intro hc1 hc2)
  clear hn1 hn2 h1 h2 hc1 hc2
  go_enter Tryz.func3, Tryz.ntmps3
  go_upto_region 2 with fail
  obtain ⟨W1, hW1⟩ : ∃ W, w.alloc (.cells #[.slice A1 cuts.length c1, .slice A2 order.length c2] 24) = W := ⟨_, rfl⟩
  have D1 : Hid (Chg (fun _ => False) w W1) := Lib.hid (by rw [← hW1]; exact (Chg.refl _ w).alloc _)
  obtain ⟨bx, hbx⟩ : ∃ b, w.heap.size = b := ⟨_, rfl⟩
  have hob : W1.heap[bx]? = some (.cells #[.slice A1 cuts.length c1, .slice A2 order.length c2] 24 (0, 0)) := by rw [← hW1, ← hbx]; exact blkAlloc w _
  have p0 : W1.cell? ⟨bx, 0, none⟩ = some (.slice A1 cuts.length c1) := blkCell hob 0
  have p1 : W1.cell? ⟨bx, 1, none⟩ = some (.slice A2 order.length c2) := blkCell hob 1
  simp only [hW1]
  simp only [hbx]
  clear hW1 hbx hob
  go_quiet (fail)
  clear p0 p1
  go_upto_region 2 with fail
  go_cut [0, 1] (fun a b wx => a = .string O ∧ b = .string X ∧ HD (Chg (fun _ => False) w wx))
  case first => as_aux_lemma =>
    go_region
    all_goals go_wp2_with fail
    all_goals
      go_meet
      exact ⟨by rw [← hO], by rw [← hX], ⟨D1.out.drewN _⟩⟩
  as_aux_lemma =>
    obtain ⟨rfl, rfl, hd⟩ := hcut
    have D2 := Lib.hid hd.out
    clear hd hO hX k1 k2 k3 k4 M1 M2 D1 HN ho hi
    have CB := Lib.hid (fun w => bMake_calls w X HOX.out.2.1 (by have := HOX.out; omega))
    go_wp2_with fail
    refine (CB.out _).mono ?_
    rintro e w3 ⟨A, cap, r, rfl, hrow, hr, hg, hchk⟩
    have hgood := made_good X HOX.out.2.1 (by have := HOX.out; omega)
    obtain ⟨l, hl⟩ : ∃ l, lvT X (chunkN X.size 128) = l := ⟨_, rfl⟩
    obtain ⟨hash, hhash⟩ : ∃ h, sumF [X] = h := ⟨_, rfl⟩
    obtain ⟨root, hroot⟩ : ∃ h, rootF l = h := ⟨_, rfl⟩
    simp only [hl, hhash, hroot] at hrow hgood ⊢
    have HL := Lib.hid (And.intro hl hhash)
    have HGOOD := Lib.hid hgood
    have D3 := Lib.hid (D2.out.trans hg (fun _ h => h.elim))
    go_upto_region 4 with fail
    obtain ⟨b, hb⟩ : ∃ b, w3.heap.size = b := ⟨_, rfl⟩
    obtain ⟨W4, hW4⟩ : ∃ W, w3.alloc (.cells #[.int .i64 1, .int .i64 (X.size : Int), .int .i64 128, .string hash, .string root, .slice A l.length cap] 27) = W := ⟨_, rfl⟩
    have D4 : Hid (Chg (fun _ => False) w W4) := Lib.hid (by rw [← hW4]; exact D3.out.alloc _)
    have HB : Hid (W4.heap[b]? = some (.cells #[.int .i64 1, .int .i64 (X.size : Int), .int .i64 128, .string hash, .string root, .slice A l.length cap] 27 (0, 0))) := Lib.hid (by rw [← hW4, ← hb]; exact blkAlloc w3 _)
    have HROW : Hid (TRow W4 (.slice A l.length cap) r l) := Lib.hid (by rw [← hW4]; exact SRow.chg hrow ((Chg.refl (fun _ => False) w3).alloc _) (fun _ _ h => h))
    simp only [hW4]
    simp only [hb]
    clear hrow hr hg hchk hl hhash hroot D2 D3 hb hW4 hgood CB
    go_wp2_with fail
    refine (dMake_calls W4 O X (by have := HOX.out; omega) (by have := HOX.out; omega)).mono ?_
    rintro e w5 ⟨p, rfl, hmk, hg5⟩
    have HMK := Lib.hid hmk
    have D5 := Lib.hid (D4.out.trans hg5 (fun _ h => h.elim))
    have HB5 := Lib.hid (hg5.obj HB.out (fun h => h))
    have HROW5 := Lib.hid (SRow.chg HROW.out hg5 (fun _ _ h => h))
    have HP : Hid (p.size ≤ X.size + 78) := Lib.hid (by
      obtain ⟨ops, rfl, _, _, h4⟩ := hmk
      rw [strOf_size, List.length_append, hdL_len]
      omega)
    clear hmk hg5 D4 HB HROW
    have k1 : IntKind.i64.wrap ((X.size : Int) + 90) = (X.size : Int) + 90 := by rw [IntKind.wrap_i64]; have := HOX.out; omega
    have d1 : decide ((X.size : Int) + 90 < (p.size : Int)) = false := decide_eq_false (by have := HP.out; omega)
    go_wp2_with fail
    refine (pNew_calls w5 O (by have := HOX.out; omega)).mono ?_
    rintro e w6 ⟨rfl, hpt⟩
    obtain ⟨ops, hpp, hok, hmd, hel⟩ := HMK.out
    have HPI : Hid (PI w5 w6 w5.heap.size O X ops 0 ⟨false, 0, [], []⟩ p.data.toList) := Lib.hid (by rw [hpp, strOf_list]; exact PI.new hpt X ops)
    have HOK := Lib.hid (And.intro hok hmd)
    obtain ⟨q, hq⟩ : ∃ q, w5.heap.size = q := ⟨_, rfl⟩
    rw [hq] at HPI ⊢
    clear hpt hpp hok hmd hel hq k1 d1 HMK
    go_upto_region 9 with fail
    go_wp2_with fail
    go_loopw [14, 15] (fun x y wx => ∃ a k : Nat, a ≤ p.size ∧ k ≤ a ∧ x = .int .i64 a ∧ y = .int .i64 k ∧ HD (∃ s, PI w5 wx q O X ops a s (p.data.toList.drop a) ∧ DStuck s ∧ s.wait.length ≤ a)) (fun x _ _ => p.size - (intOf x).toNat)
    case atStart => exact ⟨0, 0, Nat.zero_le _, Nat.le_refl _, rfl, rfl, ⟨⟨_, HPI.out, .inr (.inl ⟨rfl, rfl⟩), Nat.le_refl _⟩⟩⟩
    case round =>
      obtain ⟨a, k, ha, hk, rfl, rfl, hpi⟩ := hrel
      have HPI := Lib.hid hpi.out
      clear hpi
      by_cases hlt : a < p.size
      · as_aux_lemma =>
        obtain ⟨m, hm⟩ : ∃ m, p.size - a = m := ⟨_, rfl⟩
        have hp := HP.out
        have hx := HOX.out
        have e0 : (a : Int) < (p.size : Int) := by omega
        have k1 : IntKind.i64.wrap ((p.size : Int) - (a : Int)) = (m : Int) := by rw [IntKind.wrap_i64]; omega
        have ki : IntKind.i64.wrap ((k : Int) + 1) = ((k + 1 : Nat) : Int) := by rw [IntKind.wrap_i64]; omega
        have fin : ∀ (n z : Nat), a + n = z → 1 ≤ n → n ≤ m → HD (∃ s, PI w5 wr q O X ops a s ((p.extract a z).data.toList ++ p.data.toList.drop z) ∧ DStuck s ∧ s.wait.length ≤ a) ∧ IntKind.i64.wrap ((a : Int) + (n : Int)) = (z : Int) ∧ (0 : Int) ≤ (a : Int) ∧ (a : Int) ≤ (z : Int) ∧ (z : Int) ≤ (p.size : Int) := fun n z h0 h1 h2 => by
          subst h0
          obtain ⟨s, s1, s2, s3⟩ := HPI.out
          refine ⟨⟨s, ?_, s2, s3⟩, by rw [IntKind.wrap_i64]; omega, by omega, by omega, by omega⟩
          rw [ext_copy, show p.data.toList.drop (a + n) = (p.data.toList.drop a).drop n by rw [List.drop_drop], List.take_append_drop]
          exact s1
        have FIN := Lib.hid fin
        have CW : Hid (∀ (n z : Nat) (wa : World), a + n = z → z ≤ p.size → (∃ s, PI w5 wa q O X ops a s ((p.extract a z).data.toList ++ p.data.toList.drop z) ∧ DStuck s ∧ s.wait.length ≤ a) → Calls Tryz.prog 7 #[.pointer (some ⟨q, 0, none⟩), .string (p.extract a z)] wa fun e w' => e = .returned (.int .i64 0) ∧ HD (∃ s, PI w5 w' q O X ops z s (p.data.toList.drop z) ∧ DStuck s ∧ s.wait.length ≤ z)) := Lib.hid (fun n z wa h0 hn ⟨s, s1, s2, s3⟩ => by
          have hs : (p.extract a z).size = n := by rw [ByteArray.size_extract]; omega
          refine (pWrite_calls w5 wa q O X ops a s _ _ s1 (by omega) (by omega) HOK.out.1 HOK.out.2 (by rw [hs]; omega) (by rw [hs]; omega)).mono ?_
          rintro e w' ⟨he, s', t1, t2, t3⟩
          rw [hs] at t3
          rw [hs, h0] at t1
          exact ⟨he, ⟨s', t1, t2, by omega⟩⟩)
        have HD5 := Lib.hid (show Chg (fun _ => False) w wr from by
          obtain ⟨s, ⟨_, _, hpt, _⟩, _⟩ := HPI.out
          obtain ⟨_, _, _, _, _, _, _, _, hcg⟩ := hpt
          exact D5.out.trans hcg (fun _ h => h.elim))
        have HM := Lib.hid (show a + m = p.size ∧ 1 ≤ m from ⟨by omega, by omega⟩)
        clear hp hx fin hm
        by_cases hc : k < cuts.length
        · obtain ⟨ad, rfl, hcell⟩ := (HH1.out.chg HD5.out).2 (by omega)
          obtain ⟨x, hx⟩ : ∃ x, cuts[k]? = some x := ⟨_, List.getElem?_eq_getElem hc⟩
          have c0 := hcell k x hx
          obtain ⟨n, hn⟩ : ∃ n, min m (1 + x.toNat) = n := ⟨_, rfl⟩
          have hxl := x.toNat_lt
          have k3 : min (m : Int) (1 + (x.toNat : Int)) = (n : Int) := by omega
          have q1 : (0 : Int) ≤ (k : Int) := by omega
          have q2 : (k : Int) < (cuts.length : Int) := by omega
          obtain ⟨z, hz⟩ : ∃ z, a + n = z := ⟨_, rfl⟩
          obtain ⟨h1, h2, h3, h4, h5⟩ := FIN.out n z hz (by have := HM.out; omega) (by omega)
          have HN := Lib.hid (show 1 ≤ n ∧ a + n = z ∧ z ≤ p.size from ⟨by have := HM.out; omega, hz, by omega⟩)
          have H1 := Lib.hid h1.out
          clear hcell hx hn h1 hz
          go_wp2_with (go_at_call 7; (with_reducible refine (CW.out n z _ HN.out.2.1 HN.out.2.2 H1.out).mono ?_); rintro e w7 ⟨rfl, hpi⟩; have HPI := Lib.hid hpi.out; clear hpi)
          have := HN.out
          exact ⟨⟨z, k + 1, by omega, by omega, rfl, rfl, ⟨HPI.out⟩⟩, by simp [intOf]; omega⟩
        · obtain ⟨z, hz⟩ : ∃ z, a + m = z := ⟨_, rfl⟩
          obtain ⟨h1, h2, h3, h4, h5⟩ := FIN.out m z hz (by have := HM.out; omega) (Nat.le_refl _)
          have q2 : ¬ (k : Int) < (cuts.length : Int) := by omega
          have HN := Lib.hid (show 1 ≤ m ∧ a + m = z ∧ z ≤ p.size from ⟨by have := HM.out; omega, hz, by omega⟩)
          have H1 := Lib.hid h1.out
          clear h1 hz
          go_wp2_with (go_at_call 7; (with_reducible refine (CW.out m z _ HN.out.2.1 HN.out.2.2 H1.out).mono ?_); rintro e w7 ⟨rfl, hpi⟩; have HPI := Lib.hid hpi.out; clear hpi)
          have := HN.out
          exact ⟨⟨z, k + 1, by omega, by omega, rfl, rfl, ⟨HPI.out⟩⟩, by simp [intOf]; omega⟩
      · as_aux_lemma =>
        obtain rfl : a = p.size := by omega
        have CC : Hid (Calls Tryz.prog 8 #[.pointer (some ⟨q, 0, none⟩)] wr fun e w' => e = .returned (.tuple #[.string X, .int .i64 0]) ∧ Chg (fun _ => False) w5 w') := Lib.hid (by
          obtain ⟨s, s1, s2, s3⟩ := HPI.out
          rw [List.drop_of_length_le (by rw [bsize]; exact Nat.le_refl _)] at s1
          exact pClose_calls w5 wr q O X ops p.size s s1 s2 (by have := HOX.out; omega) (by have := HOX.out; omega))
        have e0 : ¬ (p.size : Int) < (p.size : Int) := by omega
        clear hlt HPI HH1 HP HOK ha hk
        go_wp2_with fail
        (with_reducible refine CC.out.mono ?_)
        rintro e w7 ⟨rfl, hg7⟩
        have D7 := Lib.hid (D5.out.trans hg7 (fun _ h => h.elim))
        have HB7 := Lib.hid (hg7.obj HB5.out (fun h => h))
        have HROW7 := Lib.hid (SRow.chg HROW5.out hg7 (fun _ _ h => h))
        have y0 := blkCell HB7.out 0
        have y1 := blkCell HB7.out 1
        have y2 := blkCell HB7.out 2
        have y3 := blkCell HB7.out 3
        have y4 := blkCell HB7.out 4
        have y5 := blkCell HB7.out 5
        have CWh := Lib.hid (fun w' (hg : Chg (fun _ => False) w7 w') => Whole_calls w' 1 X.size 128 hash root X A cap r l (SRow.chg HROW7.out hg (fun _ _ h => h)) (by have := HGOOD.out.rng; omega) (fun u hu => by rw [HGOOD.out.all.1 u hu]; decide) HGOOD.out.chk rfl HL.out.2)
        clear hg7 CC D5 HB5 HROW5 e0
        go_wp2_with fail
        (with_reducible refine (CWh.out w7 (Chg.refl _ _)).mono ?_)
        rintro e w8 ⟨rfl, hg8⟩
        have D8 := Lib.hid (D7.out.trans hg8 (fun _ h => h.elim))
        have HB8 := Lib.hid (hg8.obj HB7.out (fun h => h))
        have HROW8 := Lib.hid (SRow.chg HROW7.out hg8 (fun _ _ h => h))
        clear hg8 CWh y0 y1 y2 y3 y4 y5 D7 HB7 HROW7
        go_wp2_with fail
        refine (New_calls w8 w8 (Chg.refl _ _) 200 (by decide) (by decide)).mono ?_
        rintro e w9 ⟨d, rfl, hdv, hg9⟩
        have HDV := Lib.hid hdv
        clear hdv hg9
        go_wp2_with fail
        refine (fopenE_calls w8 w9 d 0 1 _ HDV.out Rg.start).mono ?_
        rintro e w10 ⟨f, c, rfl, hop⟩
        have HOP := Lib.hid hop
        have G10 := Lib.hid (show Chg (fun _ => False) w8 w10 from hop.2.2.1.2.1)
        have HB10 := Lib.hid (G10.out.obj HB8.out (fun h => h))
        have HROW10 := Lib.hid (SRow.chg HROW8.out G10.out (fun _ _ h => h))
        have hN : l.length = chunkN X.size 128 := by rw [← HL.out.1, lvT_len]
        have hN2 : l.length ≤ 16 := by rw [hN]; have := HOX.out; unfold chunkN; omega
        have CBg := Lib.hid (fbegin_calls w8 w10 f c d 1 X.size 128 hash root A cap r l X.size 0 1 _ HOP.out Rg.start HROW10.out HGOOD.out rfl (by have := HOX.out; omega) (by decide))
        have HN := Lib.hid (And.intro hN hN2)
        have y0 := blkCell HB10.out 0
        have y1 := blkCell HB10.out 1
        have y2 := blkCell HB10.out 2
        have y3 := blkCell HB10.out 3
        have y4 := blkCell HB10.out 4
        have y5 := blkCell HB10.out 5
        clear hop HDV HOP hN hN2
        go_wp2_with fail
        (with_reducible refine CBg.out.mono ?_)
        rintro e w11 ⟨rfl, sec, hfs⟩
        have HFS := Lib.hid hfs
        clear hfs CBg y0 y1 y2 y3 y4 y5 G10 HB10 HROW10
        have HMB : Hid (MB X hash root l) := Lib.hid ⟨HOX.out.2.1, HOX.out.2.2, HL.out.1, HL.out.2, HGOOD.out⟩
        have HFL := Lib.hid (FL.start HMB.out HFS.out)
        clear HFS HGOOD HL HN HOX
        go_upto_region 25 with fail
        obtain ⟨K, hK⟩ : ∃ K, min order.length 20 = K := ⟨_, rfl⟩
        have HK := Lib.hid (show K ≤ order.length ∧ K ≤ 20 from ⟨by omega, by omega⟩)
        go_cut [150, 151] (fun x y wx => x = .int .i64 (K : Int) ∧ y = .int .i64 0 ∧ wx = w11)
        case first => as_aux_lemma =>
          have km : min (order.length : Int) 20 = (K : Int) := by omega
          have km2 : min 20 (order.length : Int) = (K : Int) := by omega
          have q0 : (0 : Int) ≤ (K : Int) := by omega
          have q1 : (K : Int) ≤ (c2 : Int) := by have := HC.out; omega
          have q2 : K ≤ c2 := by have := HC.out; omega
          clear hK
          rcases A2 with _ | ad
          · have h0 : order.length = 0 := by
              rcases Nat.eq_zero_or_pos order.length with h | h
              · exact h
              · obtain ⟨_, h, _⟩ := HH2.out.2 h
                cases h
            have hK0 : K = 0 := by have := HK.out; omega
            subst hK0
            go_wp2_with fail
            go_meet
            exact ⟨rfl, rfl, rfl⟩
          · go_wp2_with fail
            go_meet
            exact ⟨rfl, rfl, rfl⟩
        as_aux_lemma =>
          obtain ⟨rfl, rfl, rfl⟩ := hcut
          clear hK
          go_wp2_with fail
          go_loopw [20, 151] (fun x y wx => ∃ (f c j num last : Nat) (sec : List (List UInt8)) (hv dv : List UInt8), j ≤ K ∧ x = .pointer (some ⟨f, 0, none⟩) ∧ y = .int .i64 j ∧ num ≤ 1 + j ∧ HD (FL w8 wx f c d X hash root l hv dv num last sec)) (fun _ y _ => K - (intOf y).toNat)
          case atStart => exact ⟨f, c, 0, _, _, sec, _, _, Nat.zero_le _, rfl, rfl, by decide, ⟨HFL.out⟩⟩
          case round =>
            clear HFL
            obtain ⟨f, c, j, num, last, sec, hv, dv, hj, rfl, rfl, hnum, hfl⟩ := hrel
            obtain ⟨wa, rfl⟩ : ∃ wa, wa = wr := ⟨_, rfl⟩
            have HFL := Lib.hid hfl.out
            have GA := Lib.hid hfl.out.chg0
            have HBA := Lib.hid (GA.out.obj HB8.out (fun h => h))
            have HROWA := Lib.hid (SRow.chg HROW8.out GA.out (fun _ _ h => h))
            clear hfl
            by_cases hlt : j < K
            · as_aux_lemma =>
              have hjo : j < order.length := by have := HK.out; omega
              obtain ⟨ad, rfl, hcell⟩ := (HH2.out.chg (D8.out.trans GA.out (fun _ h => h.elim))).2 (by omega)
              obtain ⟨x, hx⟩ : ∃ x, order[j]? = some x := ⟨_, List.getElem?_eq_getElem hjo⟩
              have c0 := hcell j x hx
              obtain ⟨i, hi⟩ : ∃ i, x.toNat % l.length = i := ⟨_, rfl⟩
              have hl0 := HMB.out.len.2.2
              have hl1 := HMB.out.len.2.1
              have hil : i < l.length := by rw [← hi]; exact Nat.mod_lt _ hl0
              have HIL := Lib.hid hil
              have k0 : (0 : Int) ≤ (j : Int) := by omega
              have k1 : (j : Int) < (order.length : Int) := by omega
              have k2 : (j : Int) < (K : Int) := by omega
              have k3 : ¬ l.length = 0 := by omega
              have k4 : ((x.toNat : Int)).tmod (l.length : Int) = (i : Int) := by rw [← hi]; rfl
              have k7 : IntKind.i64.wrap (x.toNat : Int) = (x.toNat : Int) := by rw [IntKind.wrap_i64]; have := x.toNat_lt; omega
              have ki : IntKind.i64.wrap ((j : Int) + 1) = ((j + 1 : Nat) : Int) := by rw [IntKind.wrap_i64]; have := HK.out; omega
              have b5 := blkCell HBA.out 5
              clear hcell hi hil hl0 hl1 hlt
              have HX := Lib.hid hx
              clear hx
              go_upto_region 28 with fail
              go_cut [22] (fun y wx => y = .int .i64 (i : Int) ∧ HD (Chg (fun _ => False) wa wx))
              case first => as_aux_lemma =>
                go_quiet (fail)
                go_wp2_with fail
                go_meet
                exact ⟨rfl, ⟨(Chg.refl _ wa).drewN _⟩⟩
              as_aux_lemma =>
                obtain ⟨rfl, hgb⟩ := hcut
                obtain ⟨wb, rfl⟩ : ∃ wb, wb = wc := ⟨_, rfl⟩
                have GB := Lib.hid hgb.out
                have HBB := Lib.hid (GB.out.obj HBA.out (fun h => h))
                have HROWB := Lib.hid (SRow.chg HROWA.out GB.out (fun _ _ h => h))
                have FLB := Lib.hid (HFL.out.chg GB.out)
                obtain ⟨F, E, hF, hE, h2, hlt, hFE, hEX, he, hsz, hy, hic⟩ := mcut HMB.out i HIL.out
                have CCut := Lib.hid (mcut_calls wb HMB.out A cap r HROWB.out i F E HIL.out hE h2)
                have CT := Lib.hid (fun (w' : World) (q : FL w8 w' f c d X hash root l hv dv num last sec) => mtake_calls w8 w' HMB.out f c d hv dv num last sec q (by have := HK.out; omega) i F E HIL.out hF h2 hlt he hsz hy)
                have HCE := Lib.hid (HH2.out.chg ((D8.out.trans GA.out (fun _ h => h.elim)).trans GB.out (fun _ h => h.elim)))
                have b0 := blkCell HBB.out 0
                have b1 := blkCell HBB.out 1
                have b2 := blkCell HBB.out 2
                have b3 := blkCell HBB.out 3
                have b4 := blkCell HBB.out 4
                have b5 := blkCell HBB.out 5
                have q0 : (0 : Int) ≤ (F : Int) := by omega
                have q1 : (F : Int) ≤ (E : Int) := by omega
                have q2 : (E : Int) ≤ (X.size : Int) := by omega
                clear hF hE h2 hlt hFE hEX he hsz hy hic hgb c0 HFL HBA HROWA
                go_wp2_with fail
                (with_reducible refine CCut.out.mono ?_)
                rintro e w12 ⟨rfl, hg12⟩
                have G12 := Lib.hid hg12
                have FL12 := Lib.hid (FLB.out.chg hg12)
                clear hg12 CCut b0 b1 b2 b3 b4 b5
                go_wp2_with fail
                (with_reducible refine (CT.out _ FL12.out).mono ?_)
                rintro e w13 ⟨rfl, hv2, dv2, num2, last2, sec2, hfl2, hn2, _, _⟩
                have FL13 := Lib.hid hfl2
                have HN2 := Lib.hid hn2
                have GW := Lib.hid (D8.out.trans hfl2.chg0 (fun _ h => h.elim))
                clear hfl2 hn2 CT FL12 FLB
                have c0 := (HH2.out.chg GW.out).at HX.out
                by_cases h5 : x.toNat % 5 = 4
                · have k5 : ((x.toNat : Int)).tmod 5 = 4 := by
                    show ((x.toNat % 5 : Nat) : Int) = 4
                    omega
                  clear h5
                  go_wp2_with fail
                  refine (mcrash_calls w8 w13 f c d hv2 dv2 num2 last2 sec2 FL13.out).mono ?_
                  rintro e w14 ⟨rfl, hdv⟩
                  have HDV := Lib.hid hdv
                  clear hdv c0
                  go_wp2_with fail
                  refine (mopen_calls w8 w13 w14 HMB.out f c d hv2 dv2 num2 last2 sec2 FL13.out HDV.out).mono ?_
                  rintro e w15 ⟨f2, c2', rfl, hfl⟩
                  have FL15 := Lib.hid hfl
                  clear hfl
                  go_wp2_with fail
                  exact ⟨⟨f2, c2', j + 1, num2, last2, sec2, hv2, dv2, by omega, rfl, rfl, by have := HN2.out; omega, ⟨FL15.out⟩⟩, by simp [intOf]; omega⟩
                · obtain ⟨y, hy⟩ : ∃ y, x.toNat % 5 = y := ⟨_, rfl⟩
                  have k5 : ((x.toNat : Int)).tmod 5 = (y : Int) := by rw [← hy]; rfl
                  have d5 : ((y : Int) == 4) = false := beq_eq_false_iff_ne.2 (by omega)
                  have d6 : ¬ y = 4 := by omega
                  clear h5 hy
                  go_wp2_with fail
                  exact ⟨⟨f, c, j + 1, num2, last2, sec2, hv2, dv2, by omega, rfl, rfl, by have := HN2.out; omega, ⟨FL13.out⟩⟩, by simp [intOf]; omega⟩
            · as_aux_lemma =>
              have k2 : ¬ (j : Int) < (K : Int) := by omega
              have hn21 : num ≤ 21 := by have := HK.out; omega
              have HN := Lib.hid hn21
              clear hn21 hnum
              go_wp2_with fail
              refine (mmiss_calls w8 wa HMB.out f c d hv dv num last sec HFL.out).mono ?_
              rintro e w16 ⟨M, AM, cp, rM, rfl, hrow, hg16, hleft, hml, hmi⟩
              have FL16 := Lib.hid (HFL.out.chg hg16)
              have RM16 := Lib.hid hrow
              have LM := Lib.hid hleft
              have HML := Lib.hid hml
              have HMI := Lib.hid hmi
              clear hrow hg16 hleft hml hmi HFL HBA HROWA GA k2 hlt hj HH2 HK HC
              go_wp2_with fail
              go_loopw [201] (fun y wx => ∃ (t num last : Nat) (sec : List (List UInt8)) (hv dv : List UInt8), t ≤ M.length ∧ y = .int .i64 t ∧ HD (num ≤ 21 + t) ∧ HD (FL w8 wx f c d X hash root l hv dv num last sec) ∧ HD (Left hv l.length (M.drop t)) ∧ HD (IRow wx (.slice AM M.length cp) rM M)) (fun y _ => M.length - (intOf y).toNat)
              case atStart => exact ⟨0, _, _, _, _, _, Nat.zero_le _, rfl, ⟨by have := HN.out; omega⟩, ⟨FL16.out⟩, ⟨LM.out⟩, ⟨RM16.out⟩⟩
              case round =>
                clear FL16 LM RM16 HN
                obtain ⟨t, num3, last3, sec3, hv3, dv3, ht, rfl, hn3, hfl3, hlf3, hrw3⟩ := hrel
                obtain ⟨wd, rfl⟩ : ∃ wd, wd = wr := ⟨_, rfl⟩
                have HN := Lib.hid hn3.out
                have FLD := Lib.hid hfl3.out
                have LFD := Lib.hid hlf3.out
                have RMD := Lib.hid hrw3.out
                clear hn3 hfl3 hlf3 hrw3
                have CBX := Lib.hid (fun (w' : World) (c' : Chg (fun _ => False) w8 w') => (⟨blkCell (c'.obj HB8.out (fun h => h)) 0, blkCell (c'.obj HB8.out (fun h => h)) 1, blkCell (c'.obj HB8.out (fun h => h)) 2, blkCell (c'.obj HB8.out (fun h => h)) 3, blkCell (c'.obj HB8.out (fun h => h)) 4, blkCell (c'.obj HB8.out (fun h => h)) 5⟩ :
                  w'.cell? ⟨b, 0, none⟩ = some (.int .i64 1) ∧ w'.cell? ⟨b, 1, none⟩ = some (.int .i64 (X.size : Int)) ∧ w'.cell? ⟨b, 2, none⟩ = some (.int .i64 128) ∧ w'.cell? ⟨b, 3, none⟩ = some (.string hash) ∧ w'.cell? ⟨b, 4, none⟩ = some (.string root) ∧ w'.cell? ⟨b, 5, none⟩ = some (.slice A l.length cap)))
                by_cases hlt : t < M.length
                · as_aux_lemma =>
                  obtain ⟨gm, _, rfl, _⟩ := RMD.out.at_ (by omega)
                  obtain ⟨i, hi⟩ : ∃ i, M[t]? = some i := ⟨_, List.getElem?_eq_getElem hlt⟩
                  have hil := HMI.out t i hi
                  have c0 := IRow.cell RMD.out t i hi
                  have k0 : (0 : Int) ≤ (t : Int) := by omega
                  have k1 : (t : Int) < (M.length : Int) := by omega
                  have ki : IntKind.i64.wrap ((t : Int) + 1) = ((t + 1 : Nat) : Int) := by rw [IntKind.wrap_i64]; have := HML.out; omega
                  obtain ⟨F, E, hF, hE, h2, hltF, hFE, hEX, he, hsz, hy, hic⟩ := mcut HMB.out i hil
                  have CCut := Lib.hid (fun w' (hg : Chg (fun _ => False) w8 w') => mcut_calls w' HMB.out A cap r (SRow.chg HROW8.out hg (fun _ _ h => h)) i F E hil hE h2)
                  have CF := Lib.hid (fun w' (hg : Chg (fun _ => False) w8 w') => mfits_calls w' HMB.out A cap r (SRow.chg HROW8.out hg (fun _ _ h => h)) i F E hsz hy hic)
                  have CT := Lib.hid (fun (w' : World) (q : FL w8 w' f c d X hash root l hv3 dv3 num3 last3 sec3) => mtake_calls w8 w' HMB.out f c d hv3 dv3 num3 last3 sec3 q (by have := HN.out; have := HML.out; omega) i F E hil hF h2 hltF he hsz hy)
                  have ST := Lib.hid (LFD.out.step hi (by rw [FLD.out.2.1.1]; exact hil))
                  obtain ⟨b0, b1, b2, b3, b4, b5⟩ := CBX.out wd FLD.out.chg0
                  have q0 : (0 : Int) ≤ (F : Int) := by omega
                  have q1 : (F : Int) ≤ (E : Int) := by omega
                  have q2 : (E : Int) ≤ (X.size : Int) := by omega
                  clear hi hil hF hE h2 hltF hFE hEX he hsz hy hic LFD
                  go_wp2_with fail
                  (with_reducible refine (CCut.out wd FLD.out.chg0).mono ?_)
                  rintro e w17 ⟨rfl, hg17⟩
                  have FL17 := Lib.hid (FLD.out.chg hg17)
                  have RM17 := Lib.hid (SRow.chg RMD.out hg17 (fun _ _ h => h))
                  have D := Lib.hid FL17.out.chg0
                  clear hg17 b0 b1 b2 b3 b4 b5 c0
                  go_wp2_with fail
                  go_region_held3 (fun w' => w'.cell? ⟨b, 0, none⟩ = some (.int .i64 1) ∧ w'.cell? ⟨b, 1, none⟩ = some (.int .i64 (X.size : Int)) ∧ w'.cell? ⟨b, 2, none⟩ = some (.int .i64 128) ∧ w'.cell? ⟨b, 3, none⟩ = some (.string hash) ∧ w'.cell? ⟨b, 4, none⟩ = some (.string root) ∧ w'.cell? ⟨b, 5, none⟩ = some (.slice A l.length cap)) (first | exact CBX.out _ D.out | exact CBX.out _ D.out.drew)
                    (first
                      | (go_at_call 17; refine (CF.out w17.drew D.out.drew).mono ?_; rintro e w18 ⟨rfl, hg⟩; have FL18 := Lib.hid ((FL17.out.chg (Chg.refl _ w17).drew).chg hg); have RM18 := Lib.hid (SRow.chg (SRow.chg RM17.out (Chg.refl (fun _ => False) w17).drew (fun _ _ h => h)) hg (fun _ _ h => h)); have D := Lib.hid FL18.out.chg0; clear hg)
                      | (go_at_call 14; refine (CT.out w18 FL18.out).mono ?_; rintro e w19 ⟨rfl, hv4, dv4, num4, last4, sec4, hfl, hn4, hh4, hk4⟩; have FL19 := Lib.hid hfl; have HN4 := Lib.hid hn4; have HH4 := Lib.hid hh4; have RM19 := Lib.hid (KeptI.row RM18.out hk4); have D := Lib.hid hfl.chg0; clear hfl hn4 hh4 hk4)
                      | fail "NOFIT")
                  go_wp2_with fail
                  refine ⟨⟨t + 1, num4, last4, sec4, hv4, dv4, by omega, rfl, ⟨by have := HN4.out; have := HN.out; omega⟩, ⟨FL19.out⟩, ⟨?_⟩, ⟨RM19.out⟩⟩, by simp [intOf]; omega⟩
                  rcases HH4.out with ⟨e1, e2⟩ | e1
                  · rw [e1]
                    exact ST.out.1 e2
                  · rw [e1]
                    exact ST.out.2
                · as_aux_lemma =>
                  obtain rfl : t = M.length := by omega
                  have e0 : ¬ (M.length : Int) < (M.length : Int) := by omega
                  have CI := Lib.hid (mimage_calls w8 wd HMB.out f c d hv3 dv3 num3 last3 sec3 FLD.out (by have := LFD.out; rwa [List.drop_of_length_le (Nat.le_refl _)] at this))
                  have DW := Lib.hid (D8.out.trans FLD.out.chg0 (fun _ h => h.elim))
                  clear LFD RMD hlt CBX
                  go_wp2_with fail
                  (with_reducible refine CI.out.mono ?_)
                  rintro e w20 ⟨rfl, hg20⟩
                  have D20 := Lib.hid (DW.out.trans hg20 (fun _ h => h.elim))
                  clear hg20
                  go_wp2_with fail
                  go_ret
                  exact ⟨rfl, D20.out⟩
end Go.Proofs.YtnhdlclicjmmnaaGreat

/- TopRejects: quorum.Take, quorum.Lay. -/
import Derived.Test.YtmbipabiagdaaaaGreatDoorTjY
namespace Go.Proofs.YtmbipabiagdaaaaGreatDoor
open Go.RowKit Go.Lib Go.Shelf
theorem boxSet2 {w : World} {g : Nat} {a b : Value} {T : TypeId} (h : w.heap[g]? = some (.cells #[a, b] T (0, 0))) (x y : Value) :
    ((w.setCell ⟨g, 0, none⟩ x).setCell ⟨g, 1, none⟩ y).heap[g]? = some (.cells #[x, y] T (0, 0)) ∧ Chg (fun k => k = g) w ((w.setCell ⟨g, 0, none⟩ x).setCell ⟨g, 1, none⟩ y) := by
  have h1 := blkSet h 0 x
  have h2 := blkSet h1 1 y
  exact ⟨by simpa using h2, ((Chg.refl (fun k => k = g) w).cellOf 0 x).cellOf 1 y⟩
/-- A set's bytes. -/
def setL (l : List ByteArray) (n : Int) : List UInt8 := (numBytes (l.length : Int) 1 ++ catS l) ++ numBytes n 1
def QPost (rb : Nat) (x : RS) (w : World) (e : Ending) (w' : World) : Prop :=
  ∃ A c r l n x', e = .returned (.agg #[.slice A (l : List ByteArray).length c, .int .i64 n]) ∧ TRow w' (.slice A l.length c) r l ∧ RdAt w' 113 rb x' ∧ x'.1.size ≤ x.1.size ∧ Chg (fun k => k = rb) w w' ∧ (∀ k, r = some k → w.heap.size ≤ k) ∧ l.length ≤ 255 ∧ (∀ y ∈ l, y.size ≤ 1048576) ∧ 0 ≤ n ∧ n ≤ 255 ∧ (x'.2 = 0 → took x x' (setL l n) ∧ qchk l n = 0)
def QSt (w wr : World) (b0 rb gb : Nat) (x : RS) (pre : List UInt8) (k : Nat) : Prop :=
  ∃ (x' : RS) (l : List ByteArray) (A : Option Addr) (cap : Nat) (r : Option Nat), RdAt wr 113 rb x' ∧ took x x' (pre ++ catS l) ∧ x'.1.size ≤ x.1.size ∧ l.length = k ∧ TRow wr (.slice A l.length cap) r l ∧
    wr.heap[gb]? = some (.cells #[.slice A l.length cap, .int .i64 0] 42 (0, 0)) ∧ (∀ k, r = some k → w.heap.size ≤ k) ∧ (∀ y ∈ l, y.size ≤ 1048576) ∧
    wr.heap[b0]? = some (.cells #[.slice none 0 0, .int .i64 0] 42 (0, 0)) ∧ Chg (fun k => k = rb) w wr
theorem failF_ne (x : RS) : (failF x 3).2 ≠ 0 := by
  unfold failF
  split
  · exact show ¬ (3 : Int) = 0 by decide
  · assumption
set_option maxRecDepth 100000 in
set_option maxHeartbeats 4000000 in
theorem qTake_calls (w : World) (rb : Nat) (x : RS) (hrd : RdAt w 113 rb x) (hx : x.1.size ≤ 1048576) :
    Calls Tryz.prog 122 #[.pointer (some ⟨rb, 0, none⟩)] w (QPost rb x w) := by
  have HX := Lib.hid hx
  have CB := Lib.hid (fun w' h => Byte_calls w' rb x h (by omega))
  have htk := took_num x 1 (by omega)
  obtain ⟨hn0, hn1⟩ := num_range x 1 (by omega)
  have hsz := numF_size x 1
  obtain ⟨n0, hv⟩ : ∃ v, (numF x ((1 : Nat) : Int)).1 = v := ⟨_, rfl⟩
  obtain ⟨x1, hx1⟩ : ∃ y, (numF x ((1 : Nat) : Int)).2 = y := ⟨_, rfl⟩
  have hv2 : (numF x 1).1 = n0 := hv
  have hx2 : (numF x 1).2 = x1 := hx1
  rw [hv, hx1] at htk
  rw [hv] at hn0 hn1
  rw [hx2] at hsz
  rw [hv2, hx2] at CB
  obtain ⟨k0, rfl⟩ := Int.eq_ofNat_of_zero_le hn0
  have hk255 : k0 ≤ 255 := by
    have : ((2 ^ (8 * 1) : Nat) : Int) = 256 := by decide
    omega
  obtain ⟨pre, hpre⟩ : ∃ pre, numBytes (k0 : Int) 1 = pre := ⟨_, rfl⟩
  rw [hpre] at htk
  have HPRE := Lib.hid hpre
  have HTK := Lib.hid htk
  have HSZ := Lib.hid hsz
  have HRD := Lib.hid hrd
  clear hx htk hn0 hn1 hsz hv hx1 hv2 hx2 hpre hrd
  go_enter Tryz.func122, Tryz.ntmps122
  go_wp2_with fail
  obtain ⟨b0, hb0⟩ : ∃ b, w.heap.size = b := ⟨_, rfl⟩
  obtain ⟨W0, hW⟩ : ∃ W0, (w.alloc (.cells #[.slice none 0 0, .int .i64 0] 42)).alloc (.cells #[.slice none 0 0, .int .i64 0] 42) = W0 := ⟨_, rfl⟩
  have hz : W0.heap[b0]? = some (.cells #[.slice none 0 0, .int .i64 0] 42 (0, 0)) := by rw [← hW, ← hb0]; exact blkOld (blkAlloc w _) _
  have hg : W0.heap[b0 + 1]? = some (.cells #[.slice none 0 0, .int .i64 0] 42 (0, 0)) := by
    rw [← hW, ← hb0]
    have := blkAlloc (w.alloc (.cells #[.slice none 0 0, .int .i64 0] 42)) (.cells #[.slice none 0 0, .int .i64 0] 42)
    rwa [show (w.alloc (.cells #[.slice none 0 0, .int .i64 0] 42)).heap.size = w.heap.size + 1 from by simp] at this
  have hc : Chg (fun k => k = rb) w W0 := by rw [← hW]; exact ((Chg.refl _ w).alloc _).alloc _
  have hrd0 : RdAt W0 113 rb x := by rw [← hW]; exact blkOld (blkOld HRD.out _) _
  have HBW : Hid (w.heap.size ≤ b0) := Lib.hid (Nat.le_of_eq hb0)
  simp only [hW]
  simp only [hb0]
  obtain ⟨gb, hgb⟩ : ∃ g, b0 + 1 = g := ⟨_, rfl⟩
  rw [hgb] at hg
  simp only [hgb]
  have HGW : Hid (w.heap.size ≤ gb) := Lib.hid (by omega)
  have NE2 : Hid (b0 ≠ gb) := Lib.hid (by omega)
  clear hW hb0 hgb
  refine (CB.out W0 hrd0).mono ?_
  rintro e w1 ⟨rfl, hrd, hg1⟩
  have HST : Hid (QSt w w1 b0 rb gb x pre 0) := Lib.hid ⟨x1, [], none, 0, none, hrd, by rw [show catS [] = [] from rfl, List.append_nil]; exact HTK.out, HSZ.out, rfl, SRow.nil _, hg1.obj hg (fun e => blkNe hg hrd0 (by decide) e), (fun k (e : none = some k) => nomatch e), fun y hy => absurd hy (by simp), hg1.obj hz (fun e => blkNe hz hrd0 (by decide) e), hc.trans hg1 (fun k e => .inl e)⟩
  clear hg hz hc hrd0 hrd hg1 CB
  go_wp2_with fail
  go_loopw [6] (fun v wr => ∃ k : Nat, k ≤ k0 ∧ v = .int .i64 k ∧ HD (QSt w wr b0 rb gb x pre k)) (fun v _ => k0 - (intOf v).toNat)
  case atStart => exact ⟨0, Nat.zero_le _, rfl, ⟨HST.out⟩⟩
  case round =>
    obtain ⟨k, hk, rfl, HQ⟩ := hrel
    obtain ⟨w2, rfl⟩ : ∃ w2, w2 = wr := ⟨_, rfl⟩
    obtain ⟨x', l, A, cap, r, hrd, htk, hxs, rfl, hrow, hgbk, hr, h32, hz, hch⟩ := HQ.out
    have HROW := Lib.hid hrow
    have HGB := Lib.hid hgbk
    have HR := Lib.hid hr
    have HTK := Lib.hid htk
    have H32 := Lib.hid h32
    have HZ := Lib.hid hz
    have HC := Lib.hid hch
    have HXS := Lib.hid hxs
    have HRD := Lib.hid hrd
    clear hrd htk hxs hrow hgbk hr h32 hz hch HQ HST
    by_cases hlt : l.length < k0
    · have CH := Lib.hid (fun w3 hrd => Hash_calls w3 rb x' hrd)
      have htk := (took_raw x' 32).1
      have hrs := rawF_size x' 32
      obtain ⟨q, hq⟩ : ∃ q, (rawF x' ((32 : Nat) : Int)).1 = q := ⟨_, rfl⟩
      obtain ⟨x3, hx3⟩ : ∃ y, (rawF x' ((32 : Nat) : Int)).2 = y := ⟨_, rfl⟩
      have hq2 : (rawF x' 32).1 = q := hq
      have hx2 : (rawF x' 32).2 = x3 := hx3
      rw [hq, hx3] at htk
      rw [hq2, hx2] at CH hrs
      have HTK' := Lib.hid (HTK.out.trans htk)
      have HRS := Lib.hid hrs
      have HCAT : Hid ((pre ++ catS l) ++ q.data.toList = pre ++ catS (l ++ [q])) := Lib.hid (by
        rw [List.append_assoc, catS, catS, List.flatMap_append]
        simp)
      have c5 : w2.cell? ⟨gb, 0, none⟩ = some (.slice A l.length cap) := blkCell HGB.out 0
      have hbl : (l.length + 1) * 16 ≤ 140737488355328 := by omega
      have hkk : (l.length : Int) < (k0 : Int) := by omega
      clear htk hrs hq hx3 hq2 hx2
      go_wp2_with fail
      go_region_law (first
        | (refine step_sappend w7 rfl (.tmp 9) (.tmp 12) 35 16 rfl Tryz.underlying35 elemT encT_len encT_one (.slice A l.length cap) r l q (by simp [Act.eval]) (by simp [Act.eval]) HR7.out hbl (by decide) ?_; intro A1 n1 w8 r8 hrow hnext hgrow; have HST := Lib.hid (grow_fin (i := 0) HGB7.out (by decide) HR7.out HR.out HGW.out HC7.out hrow hnext hgrow); have g5 : w8.cell? ⟨gb, 0, none⟩ = some (.slice A l.length cap) := blkCell HST.out.1 0; have f5 := blkFree HST.out.1 0; clear hrow hnext hgrow)
        | (go_simp; go_at_call 32; refine (CH.out _ (HRD.out.chg (Chg.refl (fun _ => False) _).drew (fun h => h))).mono ?_; rintro e w7 ⟨rfl, hrd7, hg⟩; have hg7 := ((Chg.refl (fun k => k = rb) w2).drew).trans hg (fun _ h => .inl h); have HRD7 := Lib.hid hrd7; have HR7 := Lib.hid (SRow.chg HROW.out hg7 (fun k e hk => by subst hk; exact SRow.ne HROW.out HRD.out (by decide) e)); have HGB7 := Lib.hid (hg7.obj HGB.out (fun e => blkNe HGB.out HRD.out (by decide) e)); have HZ7 := Lib.hid (hg7.obj HZ.out (fun e => blkNe HZ.out HRD.out (by decide) e)); have HC7 := Lib.hid (HC.out.trans hg7 (fun k e => .inl e)); have d5 : w7.cell? ⟨gb, 0, none⟩ = some (.slice A l.length cap) := blkCell HGB7.out 0; have k5 : ∀ ob, (w7.alloc ob).cell? ⟨gb, 0, none⟩ = some (.slice A l.length cap) := fun ob => blkCell (blkOld HGB7.out ob) 0; clear hrd7 hg hg7)
        | fail "NOFIT")
      all_goals
        go_wp2_with fail
        have hst := HST.out
        have hlen : (l ++ [q]).length = l.length + 1 := by rw [List.length_append, List.length_singleton]
        rw [hlen] at hst
        obtain ⟨_, hs2, hs3, hs4, hs5, hs6⟩ := hst
        exact ⟨⟨l.length + 1, by omega, by go_num, ⟨x3, l ++ [q], A1, n1, r8, hs6 _ _ _ HRD7.out (fun e => blkNe HGB7.out HRD7.out (by decide) e.symm) (by decide), by rw [← HCAT.out]; exact HTK'.out, Nat.le_trans HRS.out.2 HXS.out, hlen, by rw [hlen]; exact hs3, by rw [hlen]; simpa using hs2, hs4, fun y hy => by
          rcases List.mem_append.1 hy with h1 | h1
          · exact H32.out y h1
          · rw [List.mem_singleton.1 h1]
            have h2 := HRS.out.1
            have h3 := HXS.out
            have h4 := HX.out
            omega, hs6 _ _ _ HZ7.out NE2.out (by decide), hs5⟩⟩, by simp [intOf]; omega⟩
    · obtain rfl : l.length = k0 := by omega
      have CB := Lib.hid (fun w' h => Byte_calls w' rb x' h (by have := HXS.out; have := HX.out; omega))
      have htk := took_num x' 1 (by omega)
      obtain ⟨hn0, hn1⟩ := num_range x' 1 (by omega)
      have hsz := numF_size x' 1
      obtain ⟨n, hv⟩ : ∃ v, (numF x' ((1 : Nat) : Int)).1 = v := ⟨_, rfl⟩
      obtain ⟨x3, hx1⟩ : ∃ y, (numF x' ((1 : Nat) : Int)).2 = y := ⟨_, rfl⟩
      have hv2 : (numF x' 1).1 = n := hv
      have hx2 : (numF x' 1).2 = x3 := hx1
      rw [hv, hx1] at htk
      rw [hv] at hn0 hn1
      rw [hx2] at hsz
      rw [hv2, hx2] at CB
      have hn255 : n ≤ 255 := by
        have : ((2 ^ (8 * 1) : Nat) : Int) = 256 := by decide
        omega
      have HSET : Hid (took x x3 (setL l n)) := Lib.hid (by rw [setL, HPRE.out]; exact HTK.out.trans htk)
      have HN := Lib.hid (And.intro hn0 hn255)
      have HSZ := Lib.hid (Nat.le_trans hsz HXS.out)
      clear htk hn0 hn1 hsz hv hx1 hv2 hx2 hn255
      go_wp2_with fail
      refine (CB.out w2 HRD.out).mono ?_
      rintro e w3 ⟨rfl, hrd, hg⟩
      have HR3 := Lib.hid (SRow.chg HROW.out hg (fun k e hk => by subst hk; exact SRow.ne HROW.out HRD.out (by decide) e))
      have hgb3 := hg.obj HGB.out (fun e => blkNe HGB.out HRD.out (by decide) e)
      have a1 : w3.cell? ⟨gb, 1, none⟩ = some (.int .i64 0) := blkCell hgb3 1
      have b1 := blkFree hgb3 1
      have g4 : Chg (fun k => k = gb) w3 (w3.setCell ⟨gb, 1, none⟩ (.int .i64 n)) := (Chg.refl (fun k => k = gb) w3).setCell (p := ⟨gb, 1, none⟩) (.inl rfl) _
      have HGB4 : Hid ((w3.setCell ⟨gb, 1, none⟩ (.int .i64 n)).heap[gb]? = some (.cells #[.slice A l.length cap, .int .i64 n] 42 (0, 0))) := Lib.hid (by simpa using blkSet hgb3 1 (.int .i64 n))
      have HZ4 := Lib.hid (g4.obj (hg.obj HZ.out (fun e => blkNe HZ.out HRD.out (by decide) e)) NE2.out)
      have HRD4 : Hid (RdAt (w3.setCell ⟨gb, 1, none⟩ (.int .i64 n)) 113 rb x3) := Lib.hid (hrd.chg g4 (fun e => blkNe hgb3 hrd (by decide) e.symm))
      have HR4 := Lib.hid (SRow.chg HR3.out g4 (fun k e hk => by subst hk; exact SRow.ne HR3.out hgb3 (by decide) e))
      have HC4 := Lib.hid ((HC.out.trans hg (fun k e => .inl e)).trans g4 (fun k e => .inr (by rw [e]; exact HGW.out)))
      have m0 : (w3.setCell ⟨gb, 1, none⟩ (.int .i64 n)).cell? ⟨gb, 0, none⟩ = some (.slice A l.length cap) := blkCell HGB4.out 0
      have m1 : (w3.setCell ⟨gb, 1, none⟩ (.int .i64 n)).cell? ⟨gb, 1, none⟩ = some (.int .i64 n) := blkCell HGB4.out 1
      clear hrd hg hgb3 g4
      go_wp2_with fail
      obtain ⟨w4, hw4⟩ : ∃ w4, w3.setCell ⟨gb, 1, none⟩ (.int .i64 n) = w4 := ⟨_, rfl⟩
      rw [hw4] at HGB4 HZ4 HRD4 HR4 HC4
      simp only [hw4]
      clear m0 m1 a1 b1 hw4
      refine (qCheck_calls w4 A cap n r l HR4.out).mono ?_
      rintro e w5 ⟨rfl, hg⟩
      obtain ⟨K, hK⟩ : ∃ K, qchk l n = K := ⟨_, rfl⟩
      have HK := Lib.hid hK
      simp only [hK]
      have HGB5 := Lib.hid (hg.obj HGB4.out (fun h => h))
      have HZ5 := Lib.hid (hg.obj HZ4.out (fun h => h))
      have HRD5 := Lib.hid (HRD4.out.chg hg (fun h => h))
      have HR5 := Lib.hid (SRow.chg HR4.out hg (fun _ _ h => h))
      have HC5 := Lib.hid (HC4.out.trans hg (fun _ h => h.elim))
      clear hg hK
      by_cases hk : K = 0
      · subst hk
        have CE := Lib.hid (Err_calls w5 rb x3 HRD5.out)
        have d0 : w5.cell? ⟨b0, 0, none⟩ = some (.slice none 0 0) := blkCell HZ5.out 0
        have d1 : w5.cell? ⟨b0, 1, none⟩ = some (.int .i64 0) := blkCell HZ5.out 1
        have f0 := blkFree HZ5.out 0
        have f1 := blkFree HZ5.out 1
        by_cases he : x3.2 = 0
        · rw [he] at CE
          have HE := Lib.hid he
          have c0 : w5.cell? ⟨gb, 0, none⟩ = some (.slice A l.length cap) := blkCell HGB5.out 0
          have c1 : w5.cell? ⟨gb, 1, none⟩ = some (.int .i64 n) := blkCell HGB5.out 1
          clear he
          go_wp2_with (go_at_call 89; refine (CE.out).mono ?_; rintro e w6 ⟨rfl, rfl⟩)
          obtain ⟨hb, hcb⟩ := boxSet2 (HZ5.out) (.slice A l.length cap) (.int .i64 n)
          have q0 := blkCell hb 0
          have q1 := blkCell hb 1
          refine bodyPost_ret (v := .agg #[.slice A l.length cap, .int .i64 n]) (by simp [results, go_sem, q0, q1]) rfl ⟨A, cap, r, l, n, x3, rfl, SRow.chg HR5.out hcb (fun k e hk => by subst hk; exact SRow.ne HR5.out HZ5.out (by decide) e), HRD5.out.chg hcb (fun e => blkNe HZ5.out HRD5.out (by decide) e.symm), HSZ.out, HC5.out.trans hcb (fun k e => .inr (by rw [e]; exact HBW.out)), HR.out, hk255, H32.out, HN.out.1, HN.out.2, fun _ => ⟨HSET.out, HK.out⟩⟩
        · have he1 : (x3.2 == 0) = false := by simpa using he
          have HE := Lib.hid he
          clear he
          go_wp2_with (go_at_call 89; refine (CE.out).mono ?_; rintro e w6 ⟨rfl, rfl⟩)
          obtain ⟨hb, hcb⟩ := boxSet2 (HZ5.out) (.slice none 0 0) (.int .i64 0)
          have q0 := blkCell hb 0
          have q1 := blkCell hb 1
          refine bodyPost_ret (v := .agg #[.slice none 0 0, .int .i64 0]) (by simp [results, go_sem, q0, q1]) rfl ⟨none, 0, none, [], 0, x3, rfl, SRow.nil _, HRD5.out.chg hcb (fun e => blkNe HZ5.out HRD5.out (by decide) e.symm), HSZ.out, HC5.out.trans hcb (fun k e => .inr (by rw [e]; exact HBW.out)), (fun k (e : none = some k) => nomatch e), Nat.zero_le _, fun y hy => absurd hy (by simp), by decide, by decide, fun h => absurd h HE.out⟩
      · have hk1 : (K == 0) = false := by simpa using hk
        have CF := Lib.hid (Fail_calls w5 rb x3 3 HRD5.out)
        have hfn := failF_ne x3
        have hfs := failF_size x3 3
        obtain ⟨x6, hx6⟩ : ∃ y, failF x3 3 = y := ⟨_, rfl⟩
        rw [hx6] at CF hfn hfs
        have he1 : (x6.2 == 0) = false := by simpa using hfn
        have HFN := Lib.hid hfn
        have HFS := Lib.hid hfs
        clear hk hfn hfs hx6
        go_wp2_with (first
          | (go_at_call 72; refine (CF.out).mono ?_; rintro e w6 ⟨rfl, hrd, hg⟩; have CE := Lib.hid (Err_calls w6 rb x6 hrd); have HRD6 := Lib.hid hrd; have HZ6 := Lib.hid (hg.obj HZ5.out (fun e => blkNe HZ5.out HRD5.out (by decide) e)); have HC6 := Lib.hid (HC5.out.trans hg (fun k e => .inl e)); have d0 : w6.cell? ⟨b0, 0, none⟩ = some (.slice none 0 0) := blkCell HZ6.out 0; have d1 : w6.cell? ⟨b0, 1, none⟩ = some (.int .i64 0) := blkCell HZ6.out 1; have f0 := blkFree HZ6.out 0; have f1 := blkFree HZ6.out 1; clear hrd hg)
          | (go_at_call 89; refine (CE.out).mono ?_; rintro e w7 ⟨rfl, rfl⟩))
        obtain ⟨hb, hcb⟩ := boxSet2 (HZ6.out) (.slice none 0 0) (.int .i64 0)
        have q0 := blkCell hb 0
        have q1 := blkCell hb 1
        refine bodyPost_ret (v := .agg #[.slice none 0 0, .int .i64 0]) (by simp [results, go_sem, q0, q1]) rfl ⟨none, 0, none, [], 0, x6, rfl, SRow.nil _, HRD6.out.chg hcb (fun e => blkNe HZ6.out HRD6.out (by decide) e.symm), by rw [HFS.out]; exact HSZ.out, HC6.out.trans hcb (fun k e => .inr (by rw [e]; exact HBW.out)), (fun k (e : none = some k) => nomatch e), Nat.zero_le _, fun y hy => absurd hy (by simp), by decide, by decide, fun h => absurd h HFN.out⟩
end Go.Proofs.YtmbipabiagdaaaaGreatDoor

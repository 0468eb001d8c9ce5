/- TopRejects: meta.takeTargets. -/
import Derived.Test.YtmbipabiagdaaaaGreatDoorTkI
namespace Go.Proofs.YtmbipabiagdaaaaGreatDoor
open Go.RowKit Go.Lib Go.Shelf
theorem grow_gen {α : Type} {E : TypeId} {sz : Nat} {enc : α → List Value} {S : Nat → Prop} {W w7 w8 : World} {b i : Nat} {cs : Array Value} {T : TypeId} {v v1 : Value} {r r8 : Option Nat} {l l2 : List α} {o : Obj}
    (hb : w7.heap[b]? = some (.cells cs T (0, 0))) (hT : T ≠ E) (hrow : SRow E sz enc w7 v r l) (hr : ∀ k, r = some k → W.heap.size ≤ k) (hbW : S b) (hG : Chg S W w7)
    (hrow8 : SRow E sz enc w8 v1 r8 l2) (hn : Next w7 r r8) (hgr : (w7.alloc o).grownBy w8 r) :
    w8.heap[b]? = some (.cells cs T (0, 0)) ∧ (w8.setCell ⟨b, i, none⟩ v1).heap[b]? = some (.cells (cs.setIfInBounds i v1) T (0, 0)) ∧ SRow E sz enc (w8.setCell ⟨b, i, none⟩ v1) v1 r8 l2 ∧ (∀ k, r8 = some k → W.heap.size ≤ k) ∧ Chg S W (w8.setCell ⟨b, i, none⟩ v1) ∧
      (∀ (k : Nat) (cs' : Array Value) (T' : TypeId), w7.heap[k]? = some (.cells cs' T' (0, 0)) → k ≠ b → T' ≠ E → (w8.setCell ⟨b, i, none⟩ v1).heap[k]? = some (.cells cs' T' (0, 0))) := by
  have g8 : Chg (fun k => r = some k) w7 w8 := ((Chg.refl _ w7).alloc o).grown hgr (fun _ h => .inl h)
  have hb8 := g8.obj hb (SRow.ne hrow hb hT)
  have g9 : Chg (fun k => k = b) w8 (w8.setCell ⟨b, i, none⟩ v1) := (Chg.refl (fun k => k = b) w8).setCell (p := ⟨b, i, none⟩) (.inl rfl) _
  refine ⟨hb8, blkSet hb8 i v1, hrow8.chg g9 (fun k e hk => ?_), fun k e => ?_, (hG.trans g8 (fun k e => .inr (hr k e))).trans g9 (fun k e => .inl (by rw [e]; exact hbW)), fun k cs' T' hk h1 h2 => ?_⟩
  · subst hk
    exact SRow.ne hrow8 hb8 hT e
  · rcases hn.mem e with h | h
    · exact hr k h
    · exact Nat.le_trans hG.size h
  · exact g9.obj (g8.obj hk (SRow.ne hrow hk h2)) h1
theorem elemG : ElemInfo Tryz.prog 149 3 32 := ElemInfo.mk' (z := .agg #[.int .i64 0, .int .i64 0, .string ⟨#[]⟩]) (by kernel_rfl) rfl (by decide)
def TgSt (w wr : World) (b rb : Nat) (k v x : Int) (y : RS) (pre : List UInt8) (j : Nat) : Prop :=
  ∃ (y' : RS) (l : List Tg) (A : Option Addr) (c : Nat) (r : Option Nat), DAt wr b #[.int .i64 k, .int .i64 v, .int .i64 x, .slice none 0 0, .int .i64 0, .slice none 0 0, .int .i64 0, .slice none 0 0, .int .i64 0, .slice none 0 0, .int .i64 0, .slice none 0 0, .int .i64 0, .string ⟨#[]⟩, .string ⟨#[]⟩, .slice A l.length c, .string ⟨#[]⟩, .int .i64 0, .string ⟨#[]⟩, .int .i64 0, .string ⟨#[]⟩] ∧ RdAt wr 113 rb y' ∧ TgRow wr (.slice A l.length c) r l ∧ (∀ k, r = some k → w.heap.size ≤ k) ∧ y'.1.size ≤ 1048576 ∧ l.length = j ∧ Chg (fun j => j = b ∨ j = rb) w wr ∧ (y'.2 = 0 → took y y' (pre ++ tgsL l) ∧ ∀ t ∈ l, okTg t)
def TgPost (b rb : Nat) (k v x : Int) (y : RS) (w : World) (e : Ending) (w' : World) : Prop :=
  e = .returned (.tuple #[]) ∧ ∃ l A c r y', DAt w' b #[.int .i64 k, .int .i64 v, .int .i64 x, .slice none 0 0, .int .i64 0, .slice none 0 0, .int .i64 0, .slice none 0 0, .int .i64 0, .slice none 0 0, .int .i64 0, .slice none 0 0, .int .i64 0, .string ⟨#[]⟩, .string ⟨#[]⟩, .slice A l.length c, .string ⟨#[]⟩, .int .i64 0, .string ⟨#[]⟩, .int .i64 0, .string ⟨#[]⟩] ∧ RdAt w' 113 rb y' ∧ TgRow w' (.slice A l.length c) r l ∧ l.length ≤ 255 ∧ Chg (fun j => j = b ∨ j = rb) w w' ∧ (y'.2 = 0 → took y y' (payTg l) ∧ ∀ t ∈ l, okTg t)
set_option maxRecDepth 100000 in
set_option maxHeartbeats 4000000 in
theorem takeTargets_calls (w : World) (b rb : Nat) (k v x : Int) (y : RS) (hd : DAt w b #[.int .i64 k, .int .i64 v, .int .i64 x, .slice none 0 0, .int .i64 0, .slice none 0 0, .int .i64 0, .slice none 0 0, .int .i64 0, .slice none 0 0, .int .i64 0, .slice none 0 0, .int .i64 0, .string ⟨#[]⟩, .string ⟨#[]⟩, .slice none 0 0, .string ⟨#[]⟩, .int .i64 0, .string ⟨#[]⟩, .int .i64 0, .string ⟨#[]⟩]) (hr : RdAt w 113 rb y) (hy : y.1.size ≤ 1048576) :
    Calls Tryz.prog 79 #[.pointer (some ⟨b, 0, none⟩), .pointer (some ⟨rb, 0, none⟩)] w (TgPost b rb k v x y w) := by
  have CB := Lib.hid (Byte_calls w rb y hr (by omega))
  have htk := took_num y 1 (by omega)
  obtain ⟨hn0, hn1⟩ := num_range y 1 (by omega)
  have hsz := numF_size y 1
  obtain ⟨n0, hv⟩ : ∃ v, (numF y ((1 : Nat) : Int)).1 = v := ⟨_, rfl⟩
  obtain ⟨y1, hx1⟩ : ∃ y1, (numF y ((1 : Nat) : Int)).2 = y1 := ⟨_, rfl⟩
  have hv2 : (numF y 1).1 = n0 := hv
  have hx2 : (numF y 1).2 = y1 := hx1
  rw [hv, hx1] at htk
  rw [hv] at hn0 hn1
  rw [hx2] at hsz
  rw [hv2, hx2] at CB
  obtain ⟨k0, rfl⟩ := Int.eq_ofNat_of_zero_le hn0
  have hk255 : k0 ≤ 255 := by
    have : ((2 ^ (8 * 1) : Nat) : Int) = 256 := by decide
    omega
  obtain ⟨pre, hpre⟩ : ∃ pre, numBytes (k0 : Int) 1 = pre := ⟨_, rfl⟩
  rw [hpre] at htk
  have HPRE := Lib.hid hpre
  have HTK := Lib.hid htk
  have HSZ := Lib.hid (Nat.le_trans hsz hy)
  have HDD := Lib.hid hd
  have HRD := Lib.hid hr
  clear hy htk hn0 hn1 hsz hv hx1 hv2 hx2 hpre hr hd
  go_enter Tryz.func79, Tryz.ntmps79
  go_wp2_with fail
  refine (CB.out).mono ?_
  rintro e w1 ⟨rfl, hrd, hg1⟩
  have HST : Hid (TgSt w w1 b rb k v x y pre 0) := Lib.hid ⟨y1, [], none, 0, none, DAt.rd HDD.out HRD.out hg1, hrd, SRow.nil _, (fun k (e : none = some k) => nomatch e), HSZ.out, rfl, hg1.mono (fun j e => .inl (.inr e)), fun _ => ⟨by rw [show tgsL [] = [] from rfl, List.append_nil]; exact HTK.out, fun t ht => absurd ht (by simp)⟩⟩
  clear hrd hg1 CB
  go_wp2_with fail
  go_loopw [7] (fun i wr => ∃ j : Nat, j ≤ k0 ∧ i = .int .i64 j ∧ HD (TgSt w wr b rb k v x y pre j)) (fun i _ => k0 - (intOf i).toNat)
  case atStart => exact ⟨0, Nat.zero_le _, rfl, ⟨HST.out⟩⟩
  case round =>
    obtain ⟨j, hj, rfl, HQ⟩ := hrel
    obtain ⟨w2, rfl⟩ : ∃ w2, w2 = wr := ⟨_, rfl⟩
    obtain ⟨y', l, A, c, r, hdd, hrd, hrow, hr, hys, rfl, hch, htk⟩ := HQ.out
    have HD2 := Lib.hid hdd
    have HRD := Lib.hid hrd
    have HROW := Lib.hid hrow
    have HR := Lib.hid hr
    have HYS := Lib.hid hys
    have HC := Lib.hid hch
    have HTK := Lib.hid htk
    clear hdd hrd hrow hr hys hch htk HQ HST HDD HSZ
    by_cases hlt : l.length < k0
    · have q1 : (l.length : Int) < (k0 : Int) := by omega
      have C1 := Lib.hid (Byte_calls w2 rb y' HRD.out (by have := HYS.out; omega))
      have tk := took_num y' 1 (by omega)
      have F1 := Lib.hid (num_fits y' 1 (by omega))
      have hs := numF_size y' 1
      obtain ⟨tv, hv⟩ : ∃ f, (numF y' ((1 : Nat) : Int)).1 = f := ⟨_, rfl⟩
      obtain ⟨y2, hy1⟩ : ∃ y1, (numF y' ((1 : Nat) : Int)).2 = y1 := ⟨_, rfl⟩
      have hv2 : (numF y' 1).1 = tv := hv
      have hy2 : (numF y' 1).2 = y2 := hy1
      rw [hv] at F1
      rw [hv, hy1] at tk
      rw [hy2] at hs
      rw [hv2, hy2] at C1
      have TK1 := Lib.hid tk
      have HS2 := Lib.hid (Nat.le_trans hs HYS.out)
      clear tk hs hv hy1 hv2 hy2
      go_wp2_with fail
      refine (C1.out).mono ?_
      rintro e w3 ⟨rfl, hr3, hg3⟩
      go_wp2_with fail
      have hd3 := DAt.rd HD2.out HRD.out hg3
      have hrow3 := SRow.chg HROW.out hg3 (fun k e hk => by subst hk; exact SRow.ne HROW.out HRD.out (by decide) e)
      have hc3 := HC.out.trans hg3 (fun k e => .inl (.inr e))
      obtain ⟨tb, htb⟩ : ∃ t, w3.heap.size = t := ⟨_, rfl⟩
      obtain ⟨W3, hW3⟩ : ∃ W, w3.alloc (.cells #[.int .i64 tv, .int .i64 0, .string ⟨#[]⟩] 149) = W := ⟨_, rfl⟩
      have hob : W3.heap[tb]? = some (.cells #[.int .i64 tv, .int .i64 0, .string ⟨#[]⟩] 149 (0, 0)) := by rw [← hW3, ← htb]; exact blkAlloc w3 _
      have hcw : Chg (fun _ => False) w3 W3 := by rw [← hW3]; exact (Chg.refl _ w3).alloc _
      have HTB : Hid (r ≠ some tb) := Lib.hid (fun e => by have := (SRow.lt hrow3 e).1; omega)
      have HTW : Hid (w.heap.size ≤ tb) := Lib.hid (by rw [← htb]; exact hc3.size)
      have HOB := Lib.hid hob
      have HD3 := Lib.hid (hcw.obj hd3 (fun h => h) : DAt W3 b #[.int .i64 k, .int .i64 v, .int .i64 x, .slice none 0 0, .int .i64 0, .slice none 0 0, .int .i64 0, .slice none 0 0, .int .i64 0, .slice none 0 0, .int .i64 0, .slice none 0 0, .int .i64 0, .string ⟨#[]⟩, .string ⟨#[]⟩, .slice A l.length c, .string ⟨#[]⟩, .int .i64 0, .string ⟨#[]⟩, .int .i64 0, .string ⟨#[]⟩])
      have HR3 := Lib.hid (hr3.chg hcw (fun h => h))
      have HROW3 := Lib.hid (SRow.chg hrow3 hcw (fun _ _ h => h))
      have HC3 := Lib.hid (hc3.trans hcw (fun _ h => h.elim))
      clear hr3 hg3 hd3 hrow3 hc3 hob hcw
      simp only [hW3]
      simp only [htb]
      clear hW3 htb
      have C2 := Lib.hid (Two_calls W3 rb y2 HR3.out (by have := HS2.out; omega))
      have tk := took_num y2 2 (by omega)
      have F2 := Lib.hid (num_fits y2 2 (by omega))
      have hs := numF_size y2 2
      obtain ⟨ta, hv⟩ : ∃ f, (numF y2 ((2 : Nat) : Int)).1 = f := ⟨_, rfl⟩
      obtain ⟨y3, hy1⟩ : ∃ y1, (numF y2 ((2 : Nat) : Int)).2 = y1 := ⟨_, rfl⟩
      have hv2 : (numF y2 2).1 = ta := hv
      have hy2 : (numF y2 2).2 = y3 := hy1
      rw [hv] at F2
      rw [hv, hy1] at tk
      rw [hy2] at hs
      rw [hv2, hy2] at C2
      have TK2 := Lib.hid tk
      have HS3 := Lib.hid (Nat.le_trans hs HS2.out)
      clear tk hs hv hy1 hv2 hy2
      refine (C2.out).mono ?_
      rintro e w4 ⟨rfl, hr4, hg4⟩
      have hd4 := DAt.rd HD3.out HR3.out hg4
      have hrow4 := SRow.chg HROW3.out hg4 (fun k e hk => by subst hk; exact SRow.ne HROW3.out HR3.out (by decide) e)
      have hob4 := hg4.obj HOB.out (fun e => blkNe HOB.out HR3.out (by decide) e)
      have a1 : w4.cell? ⟨tb, 1, none⟩ = some (.int .i64 0) := blkCell hob4 1
      have b1 := blkFree hob4 1
      have gc : Chg (fun k => k = tb) w4 (w4.setCell ⟨tb, 1, none⟩ (.int .i64 ta)) := (Chg.refl (fun k => k = tb) w4).cellOf 1 _
      have HOB5 : Hid ((w4.setCell ⟨tb, 1, none⟩ (.int .i64 ta)).heap[tb]? = some (.cells #[.int .i64 tv, .int .i64 ta, .string ⟨#[]⟩] 149 (0, 0))) := Lib.hid (by simpa using blkSet hob4 1 (.int .i64 ta))
      have HD5 : Hid (DAt (w4.setCell ⟨tb, 1, none⟩ (.int .i64 ta)) b #[.int .i64 k, .int .i64 v, .int .i64 x, .slice none 0 0, .int .i64 0, .slice none 0 0, .int .i64 0, .slice none 0 0, .int .i64 0, .slice none 0 0, .int .i64 0, .slice none 0 0, .int .i64 0, .string ⟨#[]⟩, .string ⟨#[]⟩, .slice A l.length c, .string ⟨#[]⟩, .int .i64 0, .string ⟨#[]⟩, .int .i64 0, .string ⟨#[]⟩]) := Lib.hid (gc.obj hd4 (fun e => blkNe hd4 hob4 (by decide) e))
      have HR5 : Hid (RdAt (w4.setCell ⟨tb, 1, none⟩ (.int .i64 ta)) 113 rb y3) := Lib.hid (gc.obj hr4 (fun e => blkNe hr4 hob4 (by decide) e))
      have HROW5 := Lib.hid (SRow.chg hrow4 gc (fun k e hk => by subst hk; exact HTB.out e))
      have HC5 := Lib.hid ((HC3.out.trans hg4 (fun k e => .inl (.inr e))).trans gc (fun k e => .inr (by rw [e]; exact HTW.out)))
      clear hr4 hg4 hd4 hrow4 hob4 gc
      go_wp2_with fail
      obtain ⟨w5, hw5⟩ : ∃ w5, w4.setCell ⟨tb, 1, none⟩ (.int .i64 ta) = w5 := ⟨_, rfl⟩
      rw [hw5] at HOB5 HD5 HR5 HROW5 HC5
      simp only [hw5]
      clear hw5 a1 b1
      have C3 := Lib.hid (Hash_calls w5 rb y3 HR5.out)
      have tk := took_raw y3 32
      have hs := rawF_size y3 32
      obtain ⟨th, hv3⟩ : ∃ h, (rawF y3 ((32 : Nat) : Int)).1 = h := ⟨_, rfl⟩
      obtain ⟨y4, hy3⟩ : ∃ y4, (rawF y3 ((32 : Nat) : Int)).2 = y4 := ⟨_, rfl⟩
      have hv4 : (rawF y3 32).1 = th := hv3
      have hy4 : (rawF y3 32).2 = y4 := hy3
      rw [hv3, hy3] at tk
      rw [hv4, hy4] at C3 hs
      have TK3 := Lib.hid tk
      have HS4 := Lib.hid (Nat.le_trans hs.2 HS3.out)
      clear tk hs hv3 hy3 hv4 hy4
      refine (C3.out).mono ?_
      rintro e w6 ⟨rfl, hr6, hg6⟩
      have hd6 := DAt.rd HD5.out HR5.out hg6
      have hrow6 := SRow.chg HROW5.out hg6 (fun k e hk => by subst hk; exact SRow.ne HROW5.out HR5.out (by decide) e)
      have hob6 := hg6.obj HOB5.out (fun e => blkNe HOB5.out HR5.out (by decide) e)
      have a2 : w6.cell? ⟨tb, 2, none⟩ = some (.string ⟨#[]⟩) := blkCell hob6 2
      have b2 := blkFree hob6 2
      have gc : Chg (fun k => k = tb) w6 (w6.setCell ⟨tb, 2, none⟩ (.string th)) := (Chg.refl (fun k => k = tb) w6).cellOf 2 _
      have HOB7 : Hid ((w6.setCell ⟨tb, 2, none⟩ (.string th)).heap[tb]? = some (.cells #[.int .i64 tv, .int .i64 ta, .string th] 149 (0, 0))) := Lib.hid (by simpa using blkSet hob6 2 (.string th))
      have HD7 : Hid (DAt (w6.setCell ⟨tb, 2, none⟩ (.string th)) b #[.int .i64 k, .int .i64 v, .int .i64 x, .slice none 0 0, .int .i64 0, .slice none 0 0, .int .i64 0, .slice none 0 0, .int .i64 0, .slice none 0 0, .int .i64 0, .slice none 0 0, .int .i64 0, .string ⟨#[]⟩, .string ⟨#[]⟩, .slice A l.length c, .string ⟨#[]⟩, .int .i64 0, .string ⟨#[]⟩, .int .i64 0, .string ⟨#[]⟩]) := Lib.hid (gc.obj hd6 (fun e => blkNe hd6 hob6 (by decide) e))
      have HR7 : Hid (RdAt (w6.setCell ⟨tb, 2, none⟩ (.string th)) 113 rb y4) := Lib.hid (gc.obj hr6 (fun e => blkNe hr6 hob6 (by decide) e))
      have HROW7 := Lib.hid (SRow.chg hrow6 gc (fun k e hk => by subst hk; exact HTB.out e))
      have HC7 := Lib.hid ((HC5.out.trans hg6 (fun k e => .inl (.inr e))).trans gc (fun k e => .inr (by rw [e]; exact HTW.out)))
      clear hr6 hg6 hd6 hrow6 hob6 gc
      go_wp2_with fail
      obtain ⟨w7, hw7⟩ : ∃ w7, w6.setCell ⟨tb, 2, none⟩ (.string th) = w7 := ⟨_, rfl⟩
      rw [hw7] at HOB7 HD7 HR7 HROW7 HC7
      simp only [hw7]
      clear hw7 a2 b2
      have e15 : w7.cell? ⟨b, 15, none⟩ = some (.slice A l.length c) := blkCell HD7.out 15
      have e15a : ∀ ob, (w7.alloc ob).cell? ⟨b, 15, none⟩ = some (.slice A l.length c) := fun ob => blkCell (blkOld HD7.out ob) 15
      have t0 : w7.cell? ⟨tb, 0, none⟩ = some (.int .i64 tv) := blkCell HOB7.out 0
      have t1 : w7.cell? ⟨tb, 1, none⟩ = some (.int .i64 ta) := blkCell HOB7.out 1
      have t2 : w7.cell? ⟨tb, 2, none⟩ = some (.string th) := blkCell HOB7.out 2
      have hbl : (l.length + 1) * 32 ≤ 140737488355328 := by omega
      have HNE : Hid (rb ≠ b) := Lib.hid (fun e => blkNe HD7.out HR7.out (by decide) e.symm)
      go_region_law (first
        | (refine step_sappend w7.drew rfl (.tmp 22) (.tmp 24) 44 32 rfl Tryz.underlying44 elemG Tg.len Tg.one (.slice A l.length c) r l ⟨tv, ta, th⟩ (by simp [Act.eval]) (by simp [Act.eval]) (SRow.chg HROW7.out (Chg.refl (fun _ => False) w7).drew (fun _ _ h => h)) hbl (by decide) ?_; intro A1 n1 w8 r8 hrow hnext hgrow; have HST := Lib.hid (grow_gen (i := 15) (S := fun j => j = b ∨ j = rb) (W := w) (w7 := w7.drew) HD7.out (by decide) (SRow.chg HROW7.out (Chg.refl (fun _ => False) w7).drew (fun _ _ h => h)) HR.out (.inl rfl) HC7.out.drew hrow hnext hgrow); have g5 : w8.cell? ⟨b, 15, none⟩ = some (.slice A l.length c) := blkCell HST.out.1 15; have f5 := blkFree HST.out.1 15; clear hrow hnext hgrow)
        | fail "NOFIT")
      all_goals
        go_wp2_with fail
        have hst := HST.out
        have hlen : (l ++ [(⟨tv, ta, th⟩ : Tg)]).length = l.length + 1 := by rw [List.length_append, List.length_singleton]
        rw [hlen] at hst
        obtain ⟨_, hs2, hs3, hs4, hs5, hs6⟩ := hst
        refine ⟨⟨l.length + 1, by omega, by go_num, ⟨y4, l ++ [⟨tv, ta, th⟩], A1, n1, r8, by rw [hlen]; simpa [DAt] using hs2, hs6 rb _ _ HR7.out HNE.out (by decide), by rw [hlen]; exact hs3, hs4, HS4.out, hlen, hs5, fun e => ?_⟩⟩, by simp [intOf]; omega⟩
        have e3 := (TK3.out.1 e).1
        have e2 := (TK2.out e3).1
        have e1 := (TK1.out e2).1
        obtain ⟨t1, t2⟩ := HTK.out e1
        have hE : pre ++ tgsL (l ++ [(⟨tv, ta, th⟩ : Tg)]) = (((pre ++ tgsL l) ++ numBytes tv 1) ++ numBytes ta 2) ++ th.data.toList := by simp [tgsL, tgL, List.append_assoc]
        rw [hE]
        refine ⟨((t1.trans TK1.out).trans TK2.out).trans TK3.out.1, fun t ht => ?_⟩
        rcases List.mem_append.1 ht with h1 | h1
        · exact t2 t h1
        · rw [List.mem_singleton.1 h1]
          exact ⟨F1.out, F2.out, TK3.out.2 e⟩
    · obtain rfl : l.length = k0 := by omega
      go_wp2_with fail
      go_end0
      exact ⟨rfl, l, A, c, r, y', HD2.out, HRD.out, HROW.out, hk255, HC.out, fun e => ⟨by rw [payTg, HPRE.out]; exact (HTK.out e).1, (HTK.out e).2⟩⟩
end Go.Proofs.YtmbipabiagdaaaaGreatDoor

/- TopRejects: meta.takeRoot. -/
import Derived.Test.YtmbipabiagdaaaaGreatDoorTkJ
namespace Go.Proofs.YtmbipabiagdaaaaGreatDoor
open Go.RowKit Go.Lib Go.Shelf
def zkC (k v x : Int) : Array Value := #[.int .i64 k, .int .i64 v, .int .i64 x, .slice none 0 0, .int .i64 0, .slice none 0 0, .int .i64 0, .slice none 0 0, .int .i64 0, .slice none 0 0, .int .i64 0, .slice none 0 0, .int .i64 0, .string ⟨#[]⟩, .string ⟨#[]⟩, .slice none 0 0, .string ⟨#[]⟩, .int .i64 0, .string ⟨#[]⟩, .int .i64 0, .string ⟨#[]⟩]
/-- The cells of a root while its sets are read: those of ss stand. -/
def RootCs (cs : Array Value) (k v x : Int) (ss : List SetV) : Prop :=
  cs.size = 21 ∧ (∀ i, (i < 3 ∨ 13 ≤ i) → cs[i]? = (zkC k v x)[i]?) ∧ ∀ j s, ss[j]? = some s → cs[3 + 2 * j]? = some (.slice s.A s.l.length s.c) ∧ cs[3 + 2 * j + 1]? = some (.int .i64 s.n)
theorem RootCs.start (k v x : Int) : RootCs (zkC k v x) k v x [] := ⟨rfl, fun _ _ => rfl, fun j s h => by simp at h⟩
theorem RootCs.step {cs : Array Value} {k v x : Int} {ss : List SetV} (h : RootCs cs k v x ss) (hl : ss.length < 5) (s : SetV) :
    RootCs ((cs.setIfInBounds (3 + 2 * ss.length) (.slice s.A s.l.length s.c)).setIfInBounds (3 + 2 * ss.length + 1) (.int .i64 s.n)) k v x (ss ++ [s]) := by
  obtain ⟨h1, h2, h3⟩ := h
  refine ⟨by simp [h1], fun i hi => ?_, fun j t ht => ?_⟩
  · rw [Array.getElem?_setIfInBounds_ne (by omega), Array.getElem?_setIfInBounds_ne (by omega)]
    exact h2 i hi
  · by_cases hj : j < ss.length
    · rw [List.getElem?_append_left hj] at ht
      obtain ⟨q1, q2⟩ := h3 j t ht
      rw [Array.getElem?_setIfInBounds_ne (by omega), Array.getElem?_setIfInBounds_ne (by omega), Array.getElem?_setIfInBounds_ne (by omega), Array.getElem?_setIfInBounds_ne (by omega)]
      exact ⟨q1, q2⟩
    · have hj2 : j = ss.length := by
        have := (List.getElem?_eq_some_iff.1 ht).1
        rw [List.length_append, List.length_singleton] at this
        omega
      subst hj2
      rw [List.getElem?_append_right (Nat.le_refl _), Nat.sub_self] at ht
      injection ht with ht
      subst ht
      refine ⟨?_, ?_⟩
      · rw [Array.getElem?_setIfInBounds_ne (by omega), Array.getElem?_setIfInBounds_self_of_lt (by omega)]
      · rw [Array.getElem?_setIfInBounds_self_of_lt (by rw [Array.size_setIfInBounds]; omega)]
theorem RootCs.done {cs : Array Value} {k v x : Int} {ss : List SetV} (h : RootCs cs k v x ss) (hl : ss.length = 5) : ∃ s0 s1 s2 s3 s4, ss = [s0, s1, s2, s3, s4] ∧ cs = #[.int .i64 k, .int .i64 v, .int .i64 x, .slice s0.A s0.l.length s0.c, .int .i64 s0.n, .slice s1.A s1.l.length s1.c, .int .i64 s1.n, .slice s2.A s2.l.length s2.c, .int .i64 s2.n, .slice s3.A s3.l.length s3.c, .int .i64 s3.n, .slice s4.A s4.l.length s4.c, .int .i64 s4.n, .string ⟨#[]⟩, .string ⟨#[]⟩, .slice none 0 0, .string ⟨#[]⟩, .int .i64 0, .string ⟨#[]⟩, .int .i64 0, .string ⟨#[]⟩] := by
  match ss, hl with
  | [s0, s1, s2, s3, s4], _ =>
    refine ⟨s0, s1, s2, s3, s4, rfl, ?_⟩
    obtain ⟨h1, h2, h3⟩ := h
    apply Array.ext_getElem?
    intro i
    by_cases hi : i < 21
    · match i, hi with
      | 0, _ => exact h2 0 (by omega)
      | 1, _ => exact h2 1 (by omega)
      | 2, _ => exact h2 2 (by omega)
      | 3, _ => exact (h3 0 s0 rfl).1
      | 4, _ => exact (h3 0 s0 rfl).2
      | 5, _ => exact (h3 1 s1 rfl).1
      | 6, _ => exact (h3 1 s1 rfl).2
      | 7, _ => exact (h3 2 s2 rfl).1
      | 8, _ => exact (h3 2 s2 rfl).2
      | 9, _ => exact (h3 3 s3 rfl).1
      | 10, _ => exact (h3 3 s3 rfl).2
      | 11, _ => exact (h3 4 s4 rfl).1
      | 12, _ => exact (h3 4 s4 rfl).2
      | 13, _ => exact h2 13 (by omega)
      | 14, _ => exact h2 14 (by omega)
      | 15, _ => exact h2 15 (by omega)
      | 16, _ => exact h2 16 (by omega)
      | 17, _ => exact h2 17 (by omega)
      | 18, _ => exact h2 18 (by omega)
      | 19, _ => exact h2 19 (by omega)
      | 20, _ => exact h2 20 (by omega)
      | i + 21, hi => exact absurd hi (by omega)
    · rw [Array.getElem?_eq_none (by omega), Array.getElem?_eq_none (by simp; omega)]
def RtSt (w wr : World) (b rb : Nat) (k v x : Int) (y : RS) (j : Nat) : Prop :=
  ∃ (y' : RS) (ss : List SetV) (cs : Array Value), DAt wr b cs ∧ RootCs cs k v x ss ∧ RdAt wr 113 rb y' ∧ (∀ s ∈ ss, SetOk wr s) ∧ y'.1.size ≤ 1048576 ∧ ss.length = j ∧ Chg (fun j => j = b ∨ j = rb) w wr ∧ (y'.2 = 0 → took y y' (setsL ss) ∧ ∀ s ∈ ss, qchk s.l s.n = 0)
def RtPost (b rb : Nat) (k v x : Int) (y : RS) (w : World) (e : Ending) (w' : World) : Prop :=
  e = .returned (.tuple #[]) ∧ ∃ s0 s1 s2 s3 s4 g o y', DAt w' b #[.int .i64 k, .int .i64 v, .int .i64 x, .slice s0.A s0.l.length s0.c, .int .i64 s0.n, .slice s1.A s1.l.length s1.c, .int .i64 s1.n, .slice s2.A s2.l.length s2.c, .int .i64 s2.n, .slice s3.A s3.l.length s3.c, .int .i64 s3.n, .slice s4.A s4.l.length s4.c, .int .i64 s4.n, .string g, .string o, .slice none 0 0, .string ⟨#[]⟩, .int .i64 0, .string ⟨#[]⟩, .int .i64 0, .string ⟨#[]⟩] ∧ RdAt w' 113 rb y' ∧ (∀ s ∈ [s0, s1, s2, s3, s4], SetOk w' s) ∧ o.size ≤ 1048576 ∧ Chg (fun j => j = b ∨ j = rb) w w' ∧ (y'.2 = 0 → took y y' (payRt o g [s0, s1, s2, s3, s4]) ∧ (∀ s ∈ [s0, s1, s2, s3, s4], qchk s.l s.n = 0) ∧ g.size = 32)
set_option maxRecDepth 100000 in
set_option maxHeartbeats 4000000 in
theorem takeRoot_calls (w : World) (b rb : Nat) (k v x : Int) (y : RS) (hd : DAt w b #[.int .i64 k, .int .i64 v, .int .i64 x, .slice none 0 0, .int .i64 0, .slice none 0 0, .int .i64 0, .slice none 0 0, .int .i64 0, .slice none 0 0, .int .i64 0, .slice none 0 0, .int .i64 0, .string ⟨#[]⟩, .string ⟨#[]⟩, .slice none 0 0, .string ⟨#[]⟩, .int .i64 0, .string ⟨#[]⟩, .int .i64 0, .string ⟨#[]⟩]) (hr : RdAt w 113 rb y) (hy : y.1.size ≤ 1048576) :
    Calls Tryz.prog 75 #[.pointer (some ⟨b, 0, none⟩), .pointer (some ⟨rb, 0, none⟩)] w (RtPost b rb k v x y w) := by
  have CS := Lib.hid (sets_calls w b)
  have HDD := Lib.hid (show DAt w b (zkC k v x) from hd)
  have HRD := Lib.hid hr
  have HY := Lib.hid hy
  clear hd hr hy
  go_enter Tryz.func75, Tryz.ntmps75
  go_wp2_with fail
  refine (CS.out).mono ?_
  rintro e w1 ⟨gb, rfl, hgb, _, hc⟩
  have HGB := Lib.hid hgb
  have HC1 := Lib.hid hc
  have HST : Hid (RtSt w1 w1 b rb k v x y 0) := Lib.hid ⟨y, [], zkC k v x, hc.obj HDD.out (fun h => h), RootCs.start k v x, HRD.out.chg hc (fun h => h), fun s h => absurd h (by simp), HY.out, rfl, Chg.refl _ _, fun _ => ⟨took.refl y, fun s h => absurd h (by simp)⟩⟩
  have HNB : Hid (gb ≠ b) := Lib.hid (blkNe hgb (hc.obj HDD.out (fun h => h)) (by decide))
  have HNR : Hid (gb ≠ rb) := Lib.hid (blkNe hgb (HRD.out.chg hc (fun h => h)) (by decide))
  clear hgb hc CS
  go_wp2_with fail
  go_loopw [9] (fun i wr => ∃ j : Nat, j ≤ 5 ∧ i = .int .i64 j ∧ HD (RtSt w1 wr b rb k v x y j)) (fun i _ => 5 - (intOf i).toNat)
  case atStart => exact ⟨0, Nat.zero_le _, rfl, ⟨HST.out⟩⟩
  case round =>
    obtain ⟨j, hj, rfl, HQ⟩ := hrel
    obtain ⟨w2, rfl⟩ : ∃ w2, w2 = wr := ⟨_, rfl⟩
    obtain ⟨y', ss, cs, hdd, hcs, hrd, hok, hys, rfl, hch, htk⟩ := HQ.out
    have HD2 := Lib.hid hdd
    have HCS := Lib.hid hcs
    have HR2 := Lib.hid hrd
    have HOK := Lib.hid hok
    have HYS := Lib.hid hys
    have HC := Lib.hid hch
    have HTK := Lib.hid htk
    clear hdd hcs hrd hok hys hch htk HQ HST
    by_cases hlt : ss.length < 5
    · have q1 : (ss.length : Int) < 5 := by omega
      have q0 : (0 : Int) ≤ (ss.length : Int) := by omega
      have e0 : w2.cell? ⟨gb, ss.length, none⟩ = some (.pointer (some ⟨b, 3 + 2 * ss.length, none⟩)) := by
        rw [blkCell (HC.out.obj HGB.out (fun h => h.elim HNB.out HNR.out))]
        exact setsB_get b _ hlt
      have CQ := Lib.hid (qTake_calls w2 rb y' HR2.out HYS.out)
      obtain ⟨p, hp⟩ : ∃ p, 3 + 2 * ss.length = p := ⟨_, rfl⟩
      have HP := Lib.hid hp
      rw [hp] at e0
      clear hp
      go_wp2_with fail
      refine (CQ.out).mono ?_
      rintro e w3 ⟨A, c, r, l, n, y3, rfl, hrow, hr3, hs3, hg3, hfr, hl255, hle, hn0, hn1, htk3⟩
      have hd3 := DAt.rd HD2.out HR2.out hg3
      have hpz : p + 1 < cs.size := by have := HP.out; have := HCS.out.1; omega
      have a0 : w3.cell? ⟨b, p, none⟩ = some cs[p] := by rw [blkCell hd3]; exact Array.getElem?_eq_getElem (by omega)
      have a1 : w3.cell? ⟨b, p + 1, none⟩ = some cs[p + 1] := by rw [blkCell hd3]; exact Array.getElem?_eq_getElem hpz
      have b0 := blkFree hd3 p
      have b1 := blkFree hd3 (p + 1)
      have h1 := blkSet hd3 p (.slice A l.length c)
      have h2 := blkSet h1 (p + 1) (.int .i64 n)
      have gc : Chg (fun k => k = b) w3 ((w3.setCell ⟨b, p, none⟩ (.slice A l.length c)).setCell ⟨b, p + 1, none⟩ (.int .i64 n)) := ((Chg.refl (fun k => k = b) w3).cellOf p _).cellOf (p + 1) _
      have HD4 := Lib.hid h2
      have HR4 := Lib.hid (RdAt.doc hd3 hr3 gc)
      have HROW4 := Lib.hid (SRow.chg hrow gc (fun k e hk => by subst hk; exact SRow.ne hrow hd3 (by decide) e))
      have HOK4 : Hid (∀ s ∈ ss, SetOk ((w3.setCell ⟨b, p, none⟩ (.slice A l.length c)).setCell ⟨b, p + 1, none⟩ (.int .i64 n)) s) := Lib.hid (fun s hs => by
        have s2 := HOK.out s hs
        have s3 := SRow.chg s2 hg3 (fun k e hk => by subst hk; exact SRow.ne s2 HR2.out (by decide) e)
        exact SRow.chg s3 gc (fun k e hk => by subst hk; exact SRow.ne s3 hd3 (by decide) e))
      have HC4 := Lib.hid ((HC.out.trans hg3 (fun k e => .inl (.inr e))).trans gc (fun k e => .inl (.inl e)))
      have HTK3 := Lib.hid htk3
      have HS3 := Lib.hid (Nat.le_trans hs3 HYS.out)
      clear hrow hr3 hs3 hg3 hfr hle hn0 hn1 htk3 hd3 h1 h2 gc
      go_wp2_with fail
      refine ⟨⟨ss.length + 1, by omega, by go_num, ⟨y3, ss ++ [⟨A, c, r, l, n⟩], _, HD4.out, by have h := HCS.out.step hlt ⟨A, c, r, l, n⟩; rw [HP.out] at h; exact h, HR4.out, fun s hs => ?_, HS3.out, by rw [List.length_append, List.length_singleton], HC4.out, fun e => ?_⟩⟩, by simp [intOf]; omega⟩
      · rcases List.mem_append.1 hs with h1 | h1
        · exact HOK4.out s h1
        · rw [List.mem_singleton.1 h1]
          exact HROW4.out
      · obtain ⟨t1, t2⟩ := HTK3.out e
        obtain ⟨t3, t4⟩ := HTK.out (t1 e).1
        refine ⟨by rw [setsL, List.flatMap_append]; simpa [setsL] using t3.trans t1, fun s hs => ?_⟩
        rcases List.mem_append.1 hs with h1 | h1
        · exact t4 s h1
        · rw [List.mem_singleton.1 h1]
          exact t2
    · have h5 : ss.length = 5 := by omega
      obtain ⟨s0, s1, s2, s3, s4, hss, hcs⟩ := HCS.out.done h5
      subst hss
      subst hcs
      have C1 := Lib.hid (Hash_calls w2 rb y' HR2.out)
      have tk := took_raw y' 32
      have hs := rawF_size y' 32
      obtain ⟨g, hv3⟩ : ∃ h, (rawF y' ((32 : Nat) : Int)).1 = h := ⟨_, rfl⟩
      obtain ⟨y3, hy3⟩ : ∃ y4, (rawF y' ((32 : Nat) : Int)).2 = y4 := ⟨_, rfl⟩
      have hv4 : (rawF y' 32).1 = g := hv3
      have hy4 : (rawF y' 32).2 = y3 := hy3
      rw [hv3, hy3] at tk
      rw [hv4, hy4] at C1 hs
      have TK1 := Lib.hid tk
      have HS3 := Lib.hid (Nat.le_trans hs.2 HYS.out)
      clear tk hs hv3 hy3 hv4 hy4
      have C2 := Lib.hid (fun w h => Text_calls w rb y3 64 h (by have := HS3.out; omega))
      have tk := took_text y3 64
      have hs := text_size y3 64
      obtain ⟨o, hv⟩ : ∃ o, (textF y3 ((64 : Nat) : Int)).1 = o := ⟨_, rfl⟩
      obtain ⟨y4, hy1⟩ : ∃ y2, (textF y3 ((64 : Nat) : Int)).2 = y2 := ⟨_, rfl⟩
      have hv2 : (textF y3 64).1 = o := hv
      have hy2 : (textF y3 64).2 = y4 := hy1
      rw [hv, hy1] at tk
      rw [hv2, hy2] at C2 hs
      have TK2 := Lib.hid tk
      have HS4 : Hid (o.size ≤ 1048576) := Lib.hid (by have := HS3.out; omega)
      clear tk hs hv hy1 hv2 hy2
      simp only [List.length_cons, List.length_nil, Nat.reduceAdd]
      go_wp2_with fail
      refine (C1.out).mono ?_
      rintro e w3 ⟨rfl, hr3, hg3⟩
      have HD3 := Lib.hid (DAt.rd HD2.out HR2.out hg3)
      have HR3 := Lib.hid hr3
      have HC3 := Lib.hid (HC.out.trans hg3 (fun k e => .inl (.inr e)))
      have HOK3 : Hid (∀ s ∈ [s0, s1, s2, s3, s4], SetOk w3 s) := Lib.hid (fun s hs => by
        have q := HOK.out s hs
        exact SRow.chg q hg3 (fun k e hk => by subst hk; exact SRow.ne q HR2.out (by decide) e))
      clear hr3 hg3
      go_wp2_with fail
      refine (C2.out w3 HR3.out).mono ?_
      rintro e w4 ⟨rfl, hr4, hg4⟩
      have HD4 := Lib.hid (DAt.rd HD3.out HR3.out hg4)
      have HR4 := Lib.hid hr4
      have HC4 := Lib.hid (HC3.out.trans hg4 (fun k e => .inl (.inr e)))
      have HOK4 : Hid (∀ s ∈ [s0, s1, s2, s3, s4], SetOk w4 s) := Lib.hid (fun s hs => by
        have q := HOK3.out s hs
        exact SRow.chg q hg4 (fun k e hk => by subst hk; exact SRow.ne q HR3.out (by decide) e))
      have c13 : w4.cell? ⟨b, 13, none⟩ = some (.string ⟨#[]⟩) := blkCell HD4.out 13
      have f13 := blkFree HD4.out 13
      have c14 : w4.cell? ⟨b, 14, none⟩ = some (.string ⟨#[]⟩) := blkCell HD4.out 14
      have f14 := blkFree HD4.out 14
      clear hr4 hg4
      go_wp2_with fail
      go_end0
      have h13 := blkSet HD4.out 13 (.string g)
      have h14 := blkSet h13 14 (.string o)
      have gc : Chg (fun k => k = b) w4 ((w4.setCell ⟨b, 13, none⟩ (.string g)).setCell ⟨b, 14, none⟩ (.string o)) := ((Chg.refl (fun k => k = b) w4).cellOf 13 _).cellOf 14 _
      refine ⟨rfl, s0, s1, s2, s3, s4, g, o, y4, by simpa [DAt] using h14, RdAt.doc HD4.out HR4.out gc, fun s hs => ?_, HS4.out, (HC1.out.mono (S' := fun j => j = b ∨ j = rb) fun _ h => h.elim).trans (HC4.out.trans gc (fun k e => .inl (.inl e))) (fun k e => .inl e), fun e => ?_⟩
      · have q := HOK4.out s hs
        exact SRow.chg q gc (fun k e hk => by subst hk; exact SRow.ne q HD4.out (by decide) e)
      · have e3 := (TK2.out.1 e).1
        have e2 := (TK1.out.1 e3).1
        obtain ⟨t1, t2⟩ := HTK.out e2
        exact ⟨(t1.trans TK1.out.1).trans TK2.out.1, t2, TK1.out.2 e3⟩
end Go.Proofs.YtmbipabiagdaaaaGreatDoor

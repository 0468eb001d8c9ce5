/- TopRejects: meta: what each kind takes. -/
import Derived.Test.YtmbipabiagdaaaaGreatDoorTkH
namespace Go.Proofs.YtmbipabiagdaaaaGreatDoor
open Go.RowKit Go.Lib Go.Shelf
theorem DAt.rd {w w1 : World} {b rb : Nat} {cs : Array Value} {x : RS} (h : DAt w b cs) (hr : RdAt w 113 rb x) (c : Chg (fun k => k = rb) w w1) : DAt w1 b cs := c.obj h (fun e => blkNe h hr (by decide) e)
theorem RdAt.doc {w w1 : World} {b rb : Nat} {cs : Array Value} {x : RS} (h : DAt w b cs) (hr : RdAt w 113 rb x) (c : Chg (fun k => k = b) w w1) : RdAt w1 113 rb x := c.obj hr (fun e => blkNe h hr (by decide) e.symm)
theorem text_size (x : RS) (m : Int) : (textF x m).1.size ≤ x.1.size ∧ (textF x m).2.1.size ≤ x.1.size := by
  unfold textF
  split
  · exact ⟨Nat.zero_le _, Nat.le_refl _⟩
  · have h1 := numF_size x 2
    obtain ⟨y, hy⟩ : ∃ y, numF x 2 = y := ⟨_, rfl⟩
    rw [hy] at h1
    simp only [hy]
    obtain ⟨z, hz⟩ : ∃ z, (if (if m < 0 then 0 else m) < y.1 then failF y.2 4 else y.2) = z := ⟨_, rfl⟩
    have hzs : z.1.size = y.2.1.size := by
      rw [← hz]
      have key : ∀ (c : Prop) [Decidable c], (if c then failF y.2 4 else y.2).1.size = y.2.1.size := fun c _ => by
        split
        · exact failF_size _ _
        · rfl
      exact key _
    rw [hz]
    have h2 := rawF_size z y.1
    refine ⟨by omega, ?_⟩
    split
    · exact Nat.le_refl _
    · omega
def TsPost (b rb : Nat) (k v x : Int) (y : RS) (w : World) (e : Ending) (w' : World) : Prop :=
  e = .returned (.tuple #[]) ∧ ∃ f h y', DAt w' b #[.int .i64 k, .int .i64 v, .int .i64 x, .slice none 0 0, .int .i64 0, .slice none 0 0, .int .i64 0, .slice none 0 0, .int .i64 0, .slice none 0 0, .int .i64 0, .slice none 0 0, .int .i64 0, .string ⟨#[]⟩, .string ⟨#[]⟩, .slice none 0 0, .string ⟨#[]⟩, .int .i64 0, .string ⟨#[]⟩, .int .i64 f, .string h] ∧ RdAt w' 113 rb y' ∧ y'.1.size ≤ y.1.size ∧ Chg (fun j => j = b ∨ j = rb) w w' ∧ (y'.2 = 0 → took y y' (payTs f h) ∧ fits f 2 ∧ h.size = 32)
set_option maxRecDepth 100000 in
set_option maxHeartbeats 1000000 in
theorem takeTimestamp_calls (w : World) (b rb : Nat) (k v x : Int) (y : RS) (hd : DAt w b #[.int .i64 k, .int .i64 v, .int .i64 x, .slice none 0 0, .int .i64 0, .slice none 0 0, .int .i64 0, .slice none 0 0, .int .i64 0, .slice none 0 0, .int .i64 0, .slice none 0 0, .int .i64 0, .string ⟨#[]⟩, .string ⟨#[]⟩, .slice none 0 0, .string ⟨#[]⟩, .int .i64 0, .string ⟨#[]⟩, .int .i64 0, .string ⟨#[]⟩]) (hr : RdAt w 113 rb y) (hy : y.1.size ≤ 1048576) :
    Calls Tryz.prog 87 #[.pointer (some ⟨b, 0, none⟩), .pointer (some ⟨rb, 0, none⟩)] w (TsPost b rb k v x y w) := by
  have C1 := Lib.hid (Two_calls w rb y hr (by omega))
  have HD1 := Lib.hid (fun w1 (c : Chg (fun k => k = rb) w w1) => DAt.rd hd hr c)
  have tk := took_num y 2 (by omega)
  have F1 := Lib.hid (num_fits y 2 (by omega))
  have hs := numF_size y 2
  obtain ⟨f, hv⟩ : ∃ f, (numF y ((2 : Nat) : Int)).1 = f := ⟨_, rfl⟩
  obtain ⟨y1, hy1⟩ : ∃ y1, (numF y ((2 : Nat) : Int)).2 = y1 := ⟨_, rfl⟩
  have hv2 : (numF y 2).1 = f := hv
  have hy2 : (numF y 2).2 = y1 := hy1
  rw [hv] at F1
  rw [hv, hy1] at tk
  rw [hy2] at hs
  rw [hv2, hy2] at C1
  have TK1 := Lib.hid tk
  have C2 := Lib.hid (fun w1 h => Hash_calls w1 rb y1 h)
  have tk := took_raw y1 32
  have hs2 := rawF_size y1 32
  obtain ⟨h, hv3⟩ : ∃ h, (rawF y1 ((32 : Nat) : Int)).1 = h := ⟨_, rfl⟩
  obtain ⟨y3, hy3⟩ : ∃ y3, (rawF y1 ((32 : Nat) : Int)).2 = y3 := ⟨_, rfl⟩
  have hv4 : (rawF y1 32).1 = h := hv3
  have hy4 : (rawF y1 32).2 = y3 := hy3
  rw [hv3, hy3] at tk
  rw [hv4, hy4] at C2 hs2
  have TK2 := Lib.hid tk
  have HSZ : Hid (y3.1.size ≤ y.1.size) := Lib.hid (by omega)
  clear tk hs hs2 hv hy1 hv2 hy2 hv3 hy3 hv4 hy4 hd hr hy
  go_enter Tryz.func87, Tryz.ntmps87
  go_wp2_with fail
  refine (C1.out).mono ?_
  rintro e w1 ⟨rfl, hr1, hg1⟩
  have HD2 := Lib.hid (HD1.out w1 hg1)
  have HR1 := Lib.hid hr1
  have HG1 := Lib.hid hg1
  clear hr1 hg1
  go_wp2_with fail
  refine (C2.out w1 HR1.out).mono ?_
  rintro e w2 ⟨rfl, hr2, hg2⟩
  have HD3 := Lib.hid (DAt.rd HD2.out HR1.out hg2)
  have HR2 := Lib.hid hr2
  have HG2 := Lib.hid (HG1.out.trans hg2 (fun k e => .inl e))
  clear hr2 hg2
  have c19 : w2.cell? ⟨b, 19, none⟩ = some (.int .i64 0) := blkCell HD3.out 19
  have f19 := blkFree (HD3.out) 19
  have c20 : w2.cell? ⟨b, 20, none⟩ = some (.string ⟨#[]⟩) := blkCell HD3.out 20
  have f20 := blkFree (HD3.out) 20
  go_wp2_with fail
  go_end0
  have h19 := blkSet HD3.out 19 (.int .i64 f)
  have h20 := blkSet h19 20 (.string h)
  have gc : Chg (fun k => k = b) w2 ((w2.setCell ⟨b, 19, none⟩ (.int .i64 f)).setCell ⟨b, 20, none⟩ (.string h)) := ((Chg.refl (fun k => k = b) w2).cellOf 19 _).cellOf 20 _
  exact ⟨rfl, f, h, y3, by simpa [DAt] using h20, RdAt.doc HD3.out HR2.out gc, HSZ.out, (HG2.out.mono (S' := fun j => j = b ∨ j = rb) fun j e => .inl (.inr e)).trans gc (fun j e => .inl (.inl e)), fun e => ⟨TK1.out.trans TK2.out.1, F1.out, TK2.out.2 e⟩⟩
def SnPost (b rb : Nat) (k v x : Int) (y : RS) (w : World) (e : Ending) (w' : World) : Prop :=
  e = .returned (.tuple #[]) ∧ ∃ o n r f h y', DAt w' b #[.int .i64 k, .int .i64 v, .int .i64 x, .slice none 0 0, .int .i64 0, .slice none 0 0, .int .i64 0, .slice none 0 0, .int .i64 0, .slice none 0 0, .int .i64 0, .slice none 0 0, .int .i64 0, .string ⟨#[]⟩, .string ⟨#[]⟩, .slice none 0 0, .string o, .int .i64 n, .string r, .int .i64 f, .string h] ∧ RdAt w' 113 rb y' ∧ o.size ≤ 1048576 ∧ Chg (fun j => j = b ∨ j = rb) w w' ∧ (y'.2 = 0 → took y y' (paySn o n r f h) ∧ fits f 2 ∧ h.size = 32 ∧ fits n 2)
set_option maxRecDepth 100000 in
set_option maxHeartbeats 1000000 in
theorem takeSnapshot_calls (w : World) (b rb : Nat) (k v x : Int) (y : RS) (hd : DAt w b #[.int .i64 k, .int .i64 v, .int .i64 x, .slice none 0 0, .int .i64 0, .slice none 0 0, .int .i64 0, .slice none 0 0, .int .i64 0, .slice none 0 0, .int .i64 0, .slice none 0 0, .int .i64 0, .string ⟨#[]⟩, .string ⟨#[]⟩, .slice none 0 0, .string ⟨#[]⟩, .int .i64 0, .string ⟨#[]⟩, .int .i64 0, .string ⟨#[]⟩]) (hr : RdAt w 113 rb y) (hy : y.1.size ≤ 1048576) :
    Calls Tryz.prog 83 #[.pointer (some ⟨b, 0, none⟩), .pointer (some ⟨rb, 0, none⟩)] w (SnPost b rb k v x y w) := by
  have C0 := Lib.hid (takeTimestamp_calls w b rb k v x y hd hr hy)
  have HY := Lib.hid hy
  clear hd hr hy
  go_enter Tryz.func83, Tryz.ntmps83
  go_wp2_with fail
  refine (C0.out).mono ?_
  rintro e w1 ⟨rfl, f, h, y1, hd1, hr1, hs1, hg1, htk1⟩
  have HD1 := Lib.hid hd1
  have HR1 := Lib.hid hr1
  have HG1 := Lib.hid hg1
  have HTK1 := Lib.hid htk1
  have HS1 := Lib.hid (Nat.le_trans hs1 HY.out)
  have C1 := Lib.hid (Text_calls w1 rb y1 64 hr1 (by have := HY.out; omega))
  have tk := took_text y1 64
  have hs := text_size y1 64
  obtain ⟨o, hv⟩ : ∃ o, (textF y1 ((64 : Nat) : Int)).1 = o := ⟨_, rfl⟩
  obtain ⟨y2, hy1⟩ : ∃ y2, (textF y1 ((64 : Nat) : Int)).2 = y2 := ⟨_, rfl⟩
  have hv2 : (textF y1 64).1 = o := hv
  have hy2 : (textF y1 64).2 = y2 := hy1
  rw [hv, hy1] at tk
  rw [hv2, hy2] at C1 hs
  have TK2 := Lib.hid tk
  have HS2 : Hid (o.size ≤ 1048576 ∧ y2.1.size ≤ 1048576) := Lib.hid (by have := HS1.out; omega)
  clear hd1 hr1 hg1 htk1 hs1 tk hs hv hy1 hv2 hy2
  go_wp2_with fail
  refine (C1.out).mono ?_
  rintro e w2 ⟨rfl, hr2, hg2⟩
  have HD2 := Lib.hid (DAt.rd HD1.out HR1.out hg2)
  have HR2 := Lib.hid hr2
  have HG2 := Lib.hid (HG1.out.trans hg2 (fun k e => .inl (.inr e)))
  have c16 : w2.cell? ⟨b, 16, none⟩ = some (.string ⟨#[]⟩) := blkCell HD2.out 16
  have f16 := blkFree (HD2.out) 16
  have c17 : w2.cell? ⟨b, 17, none⟩ = some (.int .i64 0) := blkCell HD2.out 17
  have f17 := blkFree (HD2.out) 17
  have c18 : w2.cell? ⟨b, 18, none⟩ = some (.string ⟨#[]⟩) := blkCell HD2.out 18
  have f18 := blkFree (HD2.out) 18
  have h16 := blkSet HD2.out 16 (.string o)
  have h17 := blkSet h16 17 (.int .i64 0)
  have h18 := blkSet h17 18 (.string ⟨#[]⟩)
  have gc : Chg (fun k => k = b) w2 (((w2.setCell ⟨b, 16, none⟩ (.string o)).setCell ⟨b, 17, none⟩ (.int .i64 0)).setCell ⟨b, 18, none⟩ (.string ⟨#[]⟩)) := (((Chg.refl (fun k => k = b) w2).cellOf 16 _).cellOf 17 _).cellOf 18 _
  have HD3 : Hid (DAt (((w2.setCell ⟨b, 16, none⟩ (.string o)).setCell ⟨b, 17, none⟩ (.int .i64 0)).setCell ⟨b, 18, none⟩ (.string ⟨#[]⟩)) b #[.int .i64 k, .int .i64 v, .int .i64 x, .slice none 0 0, .int .i64 0, .slice none 0 0, .int .i64 0, .slice none 0 0, .int .i64 0, .slice none 0 0, .int .i64 0, .slice none 0 0, .int .i64 0, .string ⟨#[]⟩, .string ⟨#[]⟩, .slice none 0 0, .string o, .int .i64 0, .string ⟨#[]⟩, .int .i64 f, .string h]) := Lib.hid (by simpa [DAt] using h18)
  have HR3 := Lib.hid (RdAt.doc HD2.out HR2.out gc)
  have HG3 := Lib.hid (HG2.out.trans gc (fun j e => .inl (.inl e)))
  clear hr2 hg2 h16 h17 h18 gc
  go_wp2_with fail
  obtain ⟨w3, hw3⟩ : ∃ w3, ((w2.setCell ⟨b, 16, none⟩ (.string o)).setCell ⟨b, 17, none⟩ (.int .i64 0)).setCell ⟨b, 18, none⟩ (.string ⟨#[]⟩) = w3 := ⟨_, rfl⟩
  rw [hw3] at HD3 HR3 HG3
  simp only [hw3]
  clear hw3 c16 c17 c18 f16 f17 f18
  have C2 := Lib.hid (Two_calls w3 rb y2 HR3.out (by have := HS2.out; omega))
  have tk := took_num y2 2 (by omega)
  have F1 := Lib.hid (num_fits y2 2 (by omega))
  have hs := numF_size y2 2
  obtain ⟨n, hv⟩ : ∃ f, (numF y2 ((2 : Nat) : Int)).1 = f := ⟨_, rfl⟩
  obtain ⟨y3, hy1⟩ : ∃ y1, (numF y2 ((2 : Nat) : Int)).2 = y1 := ⟨_, rfl⟩
  have hv2 : (numF y2 2).1 = n := hv
  have hy2 : (numF y2 2).2 = y3 := hy1
  rw [hv] at F1
  rw [hv, hy1] at tk
  rw [hv2, hy2] at C2
  have TK3 := Lib.hid tk
  clear tk hs hv hy1 hv2 hy2
  refine (C2.out).mono ?_
  rintro e w4 ⟨rfl, hr4, hg4⟩
  have hd4 := DAt.rd HD3.out HR3.out hg4
  have c17 : w4.cell? ⟨b, 17, none⟩ = some (.int .i64 0) := blkCell hd4 17
  have f17 := blkFree (hd4) 17
  have h17 := blkSet hd4 17 (.int .i64 n)
  have gc : Chg (fun k => k = b) w4 (w4.setCell ⟨b, 17, none⟩ (.int .i64 n)) := (Chg.refl (fun k => k = b) w4).cellOf 17 _
  have HD5 : Hid (DAt (w4.setCell ⟨b, 17, none⟩ (.int .i64 n)) b #[.int .i64 k, .int .i64 v, .int .i64 x, .slice none 0 0, .int .i64 0, .slice none 0 0, .int .i64 0, .slice none 0 0, .int .i64 0, .slice none 0 0, .int .i64 0, .slice none 0 0, .int .i64 0, .string ⟨#[]⟩, .string ⟨#[]⟩, .slice none 0 0, .string o, .int .i64 n, .string ⟨#[]⟩, .int .i64 f, .string h]) := Lib.hid (by simpa [DAt] using h17)
  have HR5 := Lib.hid (RdAt.doc hd4 hr4 gc)
  have HG5 := Lib.hid ((HG3.out.trans hg4 (fun k e => .inl (.inr e))).trans gc (fun j e => .inl (.inl e)))
  clear hr4 hg4 hd4 h17 gc
  go_wp2_with fail
  obtain ⟨w5, hw5⟩ : ∃ w5, w4.setCell ⟨b, 17, none⟩ (.int .i64 n) = w5 := ⟨_, rfl⟩
  rw [hw5] at HD5 HR5 HG5
  simp only [hw5]
  clear hw5 c17 f17
  have C3 := Lib.hid (Hash_calls w5 rb y3 HR5.out)
  have tk := took_raw y3 32
  obtain ⟨r, hv3⟩ : ∃ h, (rawF y3 ((32 : Nat) : Int)).1 = h := ⟨_, rfl⟩
  obtain ⟨y4, hy3⟩ : ∃ y4, (rawF y3 ((32 : Nat) : Int)).2 = y4 := ⟨_, rfl⟩
  have hv4 : (rawF y3 32).1 = r := hv3
  have hy4 : (rawF y3 32).2 = y4 := hy3
  rw [hv3, hy3] at tk
  rw [hv4, hy4] at C3
  have TK4 := Lib.hid tk
  clear tk hv3 hy3 hv4 hy4
  refine (C3.out).mono ?_
  rintro e w6 ⟨rfl, hr6, hg6⟩
  have hd6 := DAt.rd HD5.out HR5.out hg6
  have c18 : w6.cell? ⟨b, 18, none⟩ = some (.string ⟨#[]⟩) := blkCell hd6 18
  have f18 := blkFree (hd6) 18
  have h18 := blkSet hd6 18 (.string r)
  have gc : Chg (fun k => k = b) w6 (w6.setCell ⟨b, 18, none⟩ (.string r)) := (Chg.refl (fun k => k = b) w6).cellOf 18 _
  have HD7 : Hid (DAt (w6.setCell ⟨b, 18, none⟩ (.string r)) b #[.int .i64 k, .int .i64 v, .int .i64 x, .slice none 0 0, .int .i64 0, .slice none 0 0, .int .i64 0, .slice none 0 0, .int .i64 0, .slice none 0 0, .int .i64 0, .slice none 0 0, .int .i64 0, .string ⟨#[]⟩, .string ⟨#[]⟩, .slice none 0 0, .string o, .int .i64 n, .string r, .int .i64 f, .string h]) := Lib.hid (by simpa [DAt] using h18)
  have HR7 := Lib.hid (RdAt.doc hd6 hr6 gc)
  have HG7 := Lib.hid ((HG5.out.trans hg6 (fun k e => .inl (.inr e))).trans gc (fun j e => .inl (.inl e)))
  clear hr6 hg6 hd6 h18 gc
  go_wp2_with fail
  go_end0
  refine ⟨rfl, o, n, r, f, h, y4, HD7.out, HR7.out, HS2.out.1, HG7.out, fun e => ?_⟩
  have e3 := (TK4.out.1 e).1
  have e2 := (TK3.out e3).1
  have e1 := (TK2.out.1 e2).1
  obtain ⟨t1, t2, t3⟩ := HTK1.out e1
  exact ⟨((t1.trans TK2.out.1).trans TK3.out).trans TK4.out.1, t2, t3, F1.out⟩
end Go.Proofs.YtmbipabiagdaaaaGreatDoor

/- TopRejects: meta.Decode. -/
import Derived.Test.YtmbipabiagdaaaaGreatDoorTkM
namespace Go.Proofs.YtmbipabiagdaaaaGreatDoor
open Go.RowKit Go.Lib Go.Shelf
def EncIs (val : Value) (w' : World) (t : ByteArray) (f : Int) : Prop := ∀ w2, Glob w2 → Chg (fun _ => False) w' w2 → Calls Tryz.prog 11 #[val] w2 fun e w3 => e = .returned (.tuple #[.string t, .int .i64 f]) ∧ Chg (fun _ => False) w2 w3
def DecPost (s : ByteArray) (w : World) (e : Ending) (w' : World) : Prop :=
  ∃ k v x A0 N0 C0 M0 A1 N1 C1 M1 A2 N2 C2 M2 A3 N3 C3 M3 A4 N4 C4 M4 g o At Nt Ct po pn pr f h xx, e = .returned (.tuple #[.agg #[.int .i64 k, .int .i64 v, .int .i64 x, .slice A0 N0 C0, .int .i64 M0, .slice A1 N1 C1, .int .i64 M1, .slice A2 N2 C2, .int .i64 M2, .slice A3 N3 C3, .int .i64 M3, .slice A4 N4 C4, .int .i64 M4, .string g, .string o, .slice At Nt Ct, .string po, .int .i64 pn, .string pr, .int .i64 f, .string h], .int .i64 xx]) ∧ Chg (fun _ => False) w w' ∧ ((xx = 3 ∧ k = 0 ∧ v = 0 ∧ Nt = 0) ∨ xx = 0) ∧ ∃ t q, (xx = 0 → t = s ∧ q = 0) ∧ EncIs (.agg #[.int .i64 k, .int .i64 v, .int .i64 x, .slice A0 N0 C0, .int .i64 M0, .slice A1 N1 C1, .int .i64 M1, .slice A2 N2 C2, .int .i64 M2, .slice A3 N3 C3, .int .i64 M3, .slice A4 N4 C4, .int .i64 M4, .string g, .string o, .slice At Nt Ct, .string po, .int .i64 pn, .string pr, .int .i64 f, .string h]) w' t q
theorem DecPost.bad (s : ByteArray) {w w' : World} (c : Chg (fun _ => False) w w') : DecPost s w (.returned (.tuple #[.agg #[.int .i64 0, .int .i64 0, .int .i64 0, .slice none 0 0, .int .i64 0, .slice none 0 0, .int .i64 0, .slice none 0 0, .int .i64 0, .slice none 0 0, .int .i64 0, .slice none 0 0, .int .i64 0, .string ⟨#[]⟩, .string ⟨#[]⟩, .slice none 0 0, .string ⟨#[]⟩, .int .i64 0, .string ⟨#[]⟩, .int .i64 0, .string ⟨#[]⟩], .int .i64 3])) w' :=
  ⟨0, 0, 0, none, 0, 0, 0, none, 0, 0, 0, none, 0, 0, 0, none, 0, 0, 0, none, 0, 0, 0, ⟨#[]⟩, ⟨#[]⟩, none, 0, 0, ⟨#[]⟩, 0, ⟨#[]⟩, 0, ⟨#[]⟩, 3, rfl, c, .inl ⟨rfl, rfl, rfl, rfl⟩, ⟨#[]⟩, 1, fun h => absurd h (by decide), fun w2 _ _ => encode0_calls w2⟩
theorem doc_law (s : ByteArray) (k v x : Int) (pay : List UInt8) (y : RS) (h : took (s, 0) y (((numBytes k 1 ++ numBytes v 2) ++ numBytes x 8) ++ pay)) (he : (endF y).2 = 0) : strOf (docL k v x pay) = s := by
  obtain ⟨h1, h2⟩ := end_ok y he
  have h3 := (h h1).2
  rw [h2, List.append_nil] at h3
  apply ByteArray.ext
  apply Array.ext'
  exact h3.symm
theorem resDoc {fn : Func} (hf : fn.results = #[.cell 2 46, .tmp 3]) (tmps : Array Value) (w : World) (b0 : Nat) (cs : Array Value) (q : Int) (hp : tmps.getD 2 undef = .pointer (some ⟨b0, 0, none⟩)) (hq : tmps.getD 3 undef = .int .i64 q) (hb : DAt w b0 cs) (hs : cs.size = 21) :
    (results fn tmps).run Tryz.prog w = .ok (.tuple #[.agg cs, .int .i64 q]) w := by
  have hp' : tmps[2]?.getD undef = .pointer (some ⟨b0, 0, none⟩) := by simpa using hp
  have hq' : tmps[3]?.getD undef = .int .i64 q := by simpa using hq
  simp [results, hf, hp', hq', asAddr, run_loadVar_row w b0 _ _ cs _ _ hb Tryz.underlying46 rfl (by rw [hs]; exact docInfo)]
set_option maxRecDepth 100000 in
set_option maxHeartbeats 4000000 in
theorem decode1_calls (w : World) (hgl : Glob w) (s : ByteArray) (hs : s.size ≤ 1048576) (hk : (numF (s, 0) 1).1 = 1) :
    Calls Tryz.prog 10 #[.string s] w (DecPost s w) := by
  have HGL := Lib.hid hgl
  have CF := Lib.hid (fun w' => forms1 w')
  clear hgl
  have HS := Lib.hid hs
  have tk := took_num (s, 0) 1 (by omega)
  obtain ⟨y1, hy1⟩ : ∃ y1, (numF (s, 0) ((1 : Nat) : Int)).2 = y1 := ⟨_, rfl⟩
  have hk2 : (numF (s, 0) ((1 : Nat) : Int)).1 = 1 := hk
  have hy2 : (numF (s, 0) 1).2 = y1 := hy1
  have hs1 := numF_size (s, 0) 1
  rw [hy2] at hs1
  rw [hk2, hy1] at tk
  have CK := Lib.hid (fun w rb h => Byte_calls w rb (s, 0) h (by have : s.size ≤ 1048576 := hs; show s.size ≤ _; omega))
  rw [hk, hy2] at CK
  have TK1 := Lib.hid tk
  have HS1 : Hid (y1.1.size ≤ 1048576) := Lib.hid (Nat.le_trans hs1 hs)
  clear tk hk hk2 hy1 hy2 hs1 hs
  go_enter Tryz.func10, Tryz.ntmps10
  go_wp2_with fail
  obtain ⟨b0, hb0⟩ : ∃ b, w.heap.size = b := ⟨_, rfl⟩
  obtain ⟨W0, hW⟩ : ∃ W0, w.alloc (.cells #[.int .i64 0, .int .i64 0, .int .i64 0, .slice none 0 0, .int .i64 0, .slice none 0 0, .int .i64 0, .slice none 0 0, .int .i64 0, .slice none 0 0, .int .i64 0, .slice none 0 0, .int .i64 0, .string ⟨#[]⟩, .string ⟨#[]⟩, .slice none 0 0, .string ⟨#[]⟩, .int .i64 0, .string ⟨#[]⟩, .int .i64 0, .string ⟨#[]⟩] 46) = W0 := ⟨_, rfl⟩
  have hz0 : DAt W0 b0 #[.int .i64 0, .int .i64 0, .int .i64 0, .slice none 0 0, .int .i64 0, .slice none 0 0, .int .i64 0, .slice none 0 0, .int .i64 0, .slice none 0 0, .int .i64 0, .slice none 0 0, .int .i64 0, .string ⟨#[]⟩, .string ⟨#[]⟩, .slice none 0 0, .string ⟨#[]⟩, .int .i64 0, .string ⟨#[]⟩, .int .i64 0, .string ⟨#[]⟩] := by rw [← hW, ← hb0]; exact blkAlloc w _
  have hc0 : Chg (fun _ => False) w W0 := by rw [← hW]; exact (Chg.refl _ w).alloc _
  have HBW : Hid (w.heap.size ≤ b0) := Lib.hid (Nat.le_of_eq hb0)
  simp only [hW]
  simp only [hb0]
  clear hW hb0
  refine (pRead_calls W0 s).mono ?_
  rintro e w1 ⟨rfl, he⟩
  obtain ⟨rb, hrb⟩ : ∃ rb, W0.heap.size = rb := ⟨_, rfl⟩
  have hrd : RdAt w1 113 rb (s, 0) := by rw [he, ← hrb]; exact blkAlloc W0 _
  have HZ1 : Hid (DAt w1 b0 #[.int .i64 0, .int .i64 0, .int .i64 0, .slice none 0 0, .int .i64 0, .slice none 0 0, .int .i64 0, .slice none 0 0, .int .i64 0, .slice none 0 0, .int .i64 0, .slice none 0 0, .int .i64 0, .string ⟨#[]⟩, .string ⟨#[]⟩, .slice none 0 0, .string ⟨#[]⟩, .int .i64 0, .string ⟨#[]⟩, .int .i64 0, .string ⟨#[]⟩]) := Lib.hid (by rw [he]; exact blkOld hz0 _)
  have HC1 : Hid (Chg (fun _ => False) w w1) := Lib.hid (by rw [he]; exact hc0.alloc _)
  have HRW : Hid (w.heap.size ≤ rb) := Lib.hid (by rw [← hrb]; exact hc0.size)
  have HRD1 := Lib.hid hrd
  simp only [hrb]
  clear he hrb hrd hz0 hc0
  go_wp2_with fail
  refine (CK.out w1 rb HRD1.out).mono ?_
  rintro e w2 ⟨rfl, hr2, hg2⟩
  have HZ2 := Lib.hid (DAt.rd HZ1.out HRD1.out hg2)
  have HC2 := Lib.hid (HC1.out.trans hg2 (fun k e => .inr (by rw [e]; exact HRW.out)))
  have HRD2 := Lib.hid hr2
  clear hr2 hg2
  simp only []
  rename_i aK
  refine aK _ _ ?_
  refine wpList_build_is rfl 46 #[(0, .tmp 11)] rfl [(0, .int .i64 1)] (by simp [Act.eval]) #[.int .i64 1, .int .i64 0, .int .i64 0, .slice none 0 0, .int .i64 0, .slice none 0 0, .int .i64 0, .slice none 0 0, .int .i64 0, .slice none 0 0, .int .i64 0, .slice none 0 0, .int .i64 0, .string ⟨#[]⟩, .string ⟨#[]⟩, .slice none 0 0, .string ⟨#[]⟩, .int .i64 0, .string ⟨#[]⟩, .int .i64 0, .string ⟨#[]⟩] (builtK 1) ?_
  clear aK
  go_wp2_with (first
    | (show wpList _ _ _ (⟨none, _, _, _, _, _⟩ :: _) _ _; refine wpList_store_all rfl 46 (.tmp 5) (.tmp 12) rfl w2.heap.size #[.int .i64 1, .int .i64 0, .int .i64 0, .slice none 0 0, .int .i64 0, .slice none 0 0, .int .i64 0, .slice none 0 0, .int .i64 0, .slice none 0 0, .int .i64 0, .slice none 0 0, .int .i64 0, .string ⟨#[]⟩, .string ⟨#[]⟩, .slice none 0 0, .string ⟨#[]⟩, .int .i64 0, .string ⟨#[]⟩, .int .i64 0, .string ⟨#[]⟩] #[.int .i64 0, .int .i64 0, .int .i64 0, .slice none 0 0, .int .i64 0, .slice none 0 0, .int .i64 0, .slice none 0 0, .int .i64 0, .slice none 0 0, .int .i64 0, .slice none 0 0, .int .i64 0, .string ⟨#[]⟩, .string ⟨#[]⟩, .slice none 0 0, .string ⟨#[]⟩, .int .i64 0, .string ⟨#[]⟩, .int .i64 0, .string ⟨#[]⟩] 46 rfl rfl (blkAlloc w2 _) rfl docInfo (by simp [Value.oneCell']) ?_; intro W2 hd2 hcs; have HD2 := Lib.hid hd2; have HC2' := Lib.hid hcs; clear hd2 hcs))
  obtain ⟨b, hb⟩ : ∃ b, w2.heap.size = b := ⟨_, rfl⟩
  have hd2 : DAt W2 b #[.int .i64 1, .int .i64 0, .int .i64 0, .slice none 0 0, .int .i64 0, .slice none 0 0, .int .i64 0, .slice none 0 0, .int .i64 0, .slice none 0 0, .int .i64 0, .slice none 0 0, .int .i64 0, .string ⟨#[]⟩, .string ⟨#[]⟩, .slice none 0 0, .string ⟨#[]⟩, .int .i64 0, .string ⟨#[]⟩, .int .i64 0, .string ⟨#[]⟩] := by rw [← hb]; exact HD2.out
  have hcw : Chg (fun _ => False) w2 W2 := ((Chg.refl (fun _ => False) w2).alloc _).trans HC2'.out (fun k e => .inr (Nat.le_of_eq e.symm))
  have HDW : Hid (w.heap.size ≤ b) := Lib.hid (by rw [← hb]; exact HC2.out.size)
  have HNE : Hid (b0 ≠ b) := Lib.hid (by have := blkLt HZ2.out; omega)
  have HD := Lib.hid hd2
  have HZ := Lib.hid (hcw.obj HZ2.out (fun h => h))
  have HC := Lib.hid (HC2.out.trans hcw (fun _ h => h.elim))
  have HRD := Lib.hid (HRD2.out.chg hcw (fun h => h))
  simp only [hb]
  clear hb hd2 hcw HD2 HC2'
  have CR := Lib.hid (Two_calls W2 rb y1 HRD.out (by have := HS1.out; omega))
  have tk := took_num y1 2 (by omega)
  have hs1 := numF_size y1 2
  obtain ⟨v, hv⟩ : ∃ f, (numF y1 ((2 : Nat) : Int)).1 = f := ⟨_, rfl⟩
  obtain ⟨y2, hy⟩ : ∃ y, (numF y1 ((2 : Nat) : Int)).2 = y := ⟨_, rfl⟩
  have hv2 : (numF y1 2).1 = v := hv
  have hy2 : (numF y1 2).2 = y2 := hy
  rw [hv, hy] at tk
  rw [hy2] at hs1
  rw [hv2, hy2] at CR
  have TK2 := Lib.hid (TK1.out.trans tk)
  have HS2 := Lib.hid (Nat.le_trans hs1 HS1.out)
  clear tk hs1 hv hy hv2 hy2
  refine (CR.out).mono ?_
  rintro e w3 ⟨rfl, hr3, hg3⟩
  have hd3 : DAt w3 b #[.int .i64 1, .int .i64 0, .int .i64 0, .slice none 0 0, .int .i64 0, .slice none 0 0, .int .i64 0, .slice none 0 0, .int .i64 0, .slice none 0 0, .int .i64 0, .slice none 0 0, .int .i64 0, .string ⟨#[]⟩, .string ⟨#[]⟩, .slice none 0 0, .string ⟨#[]⟩, .int .i64 0, .string ⟨#[]⟩, .int .i64 0, .string ⟨#[]⟩] := DAt.rd HD.out HRD.out hg3
  have a1 : w3.cell? ⟨b, 1, none⟩ = some (.int .i64 0) := blkCell hd3 1
  have b1 := blkFree hd3 1
  have h1 := blkSet hd3 1 (.int .i64 v)
  have gc : Chg (fun k => k = b) w3 (w3.setCell ⟨b, 1, none⟩ (.int .i64 v)) := (Chg.refl (fun k => k = b) w3).cellOf 1 _
  have HD : Hid (DAt (w3.setCell ⟨b, 1, none⟩ (.int .i64 v)) b #[.int .i64 1, .int .i64 v, .int .i64 0, .slice none 0 0, .int .i64 0, .slice none 0 0, .int .i64 0, .slice none 0 0, .int .i64 0, .slice none 0 0, .int .i64 0, .slice none 0 0, .int .i64 0, .string ⟨#[]⟩, .string ⟨#[]⟩, .slice none 0 0, .string ⟨#[]⟩, .int .i64 0, .string ⟨#[]⟩, .int .i64 0, .string ⟨#[]⟩]) := Lib.hid (by simpa [DAt] using h1)
  have HZ := Lib.hid (gc.obj (DAt.rd HZ.out HRD.out hg3) HNE.out)
  have HRD := Lib.hid (RdAt.doc hd3 hr3 gc)
  have HC := Lib.hid ((HC.out.trans hg3 (fun k e => .inr (by rw [e]; exact HRW.out))).trans gc (fun k e => .inr (by rw [e]; exact HDW.out)))
  clear hr3 hg3 hd3 h1 gc
  go_wp2_with fail
  obtain ⟨W2, hW2⟩ : ∃ W, w3.setCell ⟨b, 1, none⟩ (.int .i64 v) = W := ⟨_, rfl⟩
  rw [hW2] at HD HZ HRD HC
  simp only [hW2]
  clear hW2 a1 b1
  have CR := Lib.hid (Eight_calls W2 rb y2 HRD.out (by have := HS2.out; omega))
  have tk := took_eight y2
  have hs1 : (numF (eightF y2) 8).2.1.size ≤ y2.1.size := by
    have h1 := numF_size (eightF y2) 8
    rwa [eightF_left] at h1
  obtain ⟨x, hv⟩ : ∃ f, (numF (eightF y2) 8).1 = f := ⟨_, rfl⟩
  obtain ⟨y3, hy⟩ : ∃ y, (numF (eightF y2) 8).2 = y := ⟨_, rfl⟩
  rw [hv, hy] at tk CR
  rw [hy] at hs1
  have TK3 := Lib.hid (TK2.out.trans tk.1)
  have HS3 := Lib.hid (Nat.le_trans hs1 HS2.out)
  clear tk hs1 hv hy
  refine (CR.out).mono ?_
  rintro e w3 ⟨rfl, hr3, hg3⟩
  have hd3 : DAt w3 b #[.int .i64 1, .int .i64 v, .int .i64 0, .slice none 0 0, .int .i64 0, .slice none 0 0, .int .i64 0, .slice none 0 0, .int .i64 0, .slice none 0 0, .int .i64 0, .slice none 0 0, .int .i64 0, .string ⟨#[]⟩, .string ⟨#[]⟩, .slice none 0 0, .string ⟨#[]⟩, .int .i64 0, .string ⟨#[]⟩, .int .i64 0, .string ⟨#[]⟩] := DAt.rd HD.out HRD.out hg3
  have a2 : w3.cell? ⟨b, 2, none⟩ = some (.int .i64 0) := blkCell hd3 2
  have b2 := blkFree hd3 2
  have h2 := blkSet hd3 2 (.int .i64 x)
  have gc : Chg (fun k => k = b) w3 (w3.setCell ⟨b, 2, none⟩ (.int .i64 x)) := (Chg.refl (fun k => k = b) w3).cellOf 2 _
  have HD : Hid (DAt (w3.setCell ⟨b, 2, none⟩ (.int .i64 x)) b #[.int .i64 1, .int .i64 v, .int .i64 x, .slice none 0 0, .int .i64 0, .slice none 0 0, .int .i64 0, .slice none 0 0, .int .i64 0, .slice none 0 0, .int .i64 0, .slice none 0 0, .int .i64 0, .string ⟨#[]⟩, .string ⟨#[]⟩, .slice none 0 0, .string ⟨#[]⟩, .int .i64 0, .string ⟨#[]⟩, .int .i64 0, .string ⟨#[]⟩]) := Lib.hid (by simpa [DAt] using h2)
  have HZ := Lib.hid (gc.obj (DAt.rd HZ.out HRD.out hg3) HNE.out)
  have HRD := Lib.hid (RdAt.doc hd3 hr3 gc)
  have HC := Lib.hid ((HC.out.trans hg3 (fun k e => .inr (by rw [e]; exact HRW.out))).trans gc (fun k e => .inr (by rw [e]; exact HDW.out)))
  have k0 : (w3.setCell ⟨b, 2, none⟩ (.int .i64 x)).cell? ⟨b, 0, none⟩ = some (.int .i64 1) := blkCell HD.out 0
  clear hr3 hg3 hd3 h2 gc
  go_wp2_with fail
  obtain ⟨W2, hW2⟩ : ∃ W, w3.setCell ⟨b, 2, none⟩ (.int .i64 x) = W := ⟨_, rfl⟩
  rw [hW2] at HD HZ HRD HC
  simp only [hW2]
  clear hW2 a2 b2 k0
  refine (CF.out W2).mono ?_
  rintro e w4 ⟨rfl, hc4⟩
  go_wp2_with fail
  obtain ⟨fb, hfb⟩ : ∃ f, w4.heap.size = f := ⟨_, rfl⟩
  obtain ⟨W4, hW4⟩ : ∃ W, w4.alloc (.cells #[.func (.func 73) #[] #[], .func (.func 74) #[] #[], .func (.func 75) #[] #[], .func (.func 76) #[] #[]] 89) = W := ⟨_, rfl⟩
  have hfo : W4.heap[fb]? = some (.cells #[.func (.func 73) #[] #[], .func (.func 74) #[] #[], .func (.func 75) #[] #[], .func (.func 76) #[] #[]] 89 (0, 0)) := by rw [← hW4, ← hfb]; exact blkAlloc w4 _
  have hc5 : Chg (fun _ => False) W2 W4 := by rw [← hW4]; exact hc4.alloc _
  have HD := Lib.hid (hc5.obj HD.out (fun h => h))
  have HZ := Lib.hid (hc5.obj HZ.out (fun h => h))
  have HRD := Lib.hid (HRD.out.chg hc5 (fun h => h))
  have HC := Lib.hid (HC.out.trans hc5 (fun _ h => h.elim))
  have g2 : W4.cell? ⟨fb, 2, none⟩ = some (.func (.func 75) #[] #[]) := blkCell hfo 2
  try simp only [hW4]
  try simp only [hfb]
  clear hW4 hfb hfo hc5 hc4
  go_wp2_with fail
  clear g2
  refine (takeRoot_calls W4 b rb 1 v x y3 HD.out HRD.out HS3.out).mono ?_
  rintro e w5 ⟨rfl, s0, s1, s2, s3, s4, g, o, y4, hd4, hr4, hok4, ho4, hc4, ht4⟩
  have HOK := Lib.hid hok4; have HO := Lib.hid ho4; clear hok4 ho4
  have HZ := Lib.hid (hc4.obj HZ.out (fun h => h.elim HNE.out (fun e => blkNe HZ.out HRD.out (by decide) e)))
  have HC := Lib.hid (HC.out.trans hc4 (fun k e => .inr (e.elim (fun e => by rw [e]; exact HDW.out) (fun e => by rw [e]; exact HRW.out))))
  have HD := Lib.hid hd4
  have HRD := Lib.hid hr4
  have HT := Lib.hid ht4
  clear hd4 hr4 hc4 ht4
  go_wp2_with fail
  refine (End_calls w5 rb y4 HRD.out).mono ?_
  rintro e w6 ⟨rfl, hr6, hg⟩
  have HOK := Lib.hid (fun s hs => SRow.chg (HOK.out s hs) hg (fun k e hk => by subst hk; exact SRow.ne (HOK.out s hs) HRD.out (by decide) e) : ∀ s ∈ [s0, s1, s2, s3, s4], SetOk w6 s)
  have HD := Lib.hid (DAt.rd HD.out HRD.out hg)
  have HZ := Lib.hid (DAt.rd HZ.out HRD.out hg)
  have HC := Lib.hid (HC.out.trans hg (fun k e => .inr (by rw [e]; exact HRW.out)))
  obtain ⟨EE, hE⟩ : ∃ E, (endF y4).2 = E := ⟨_, rfl⟩
  have HEE := Lib.hid hE
  simp only [hE]
  clear hE hr6 hg
  by_cases he : EE = 0
  · subst he
    have CC := Lib.hid (fun w' hg (c : Chg (fun _ => False) w6 w') => check1_calls w' hg v x s0 s1 s2 s3 s4 g o (fun s hs => SRow.chg (HOK.out s hs) c (fun _ _ h => h)) HO.out)
    obtain ⟨K, hK⟩ : ∃ K, chkF v x (goodR o g [s0, s1, s2, s3, s4]) = K := ⟨_, rfl⟩
    rw [hK] at CC
    have HKK := Lib.hid hK
    clear hK
    go_wp2_with (show wpList _ _ _ (⟨some 34, _, _, _, _, _⟩ :: _) _ _; refine wpList_load_rowG (by go_simp) 46 (.tmp 5) rfl b rfl 46 #[.int .i64 1, .int .i64 v, .int .i64 x, .slice s0.A s0.l.length s0.c, .int .i64 s0.n, .slice s1.A s1.l.length s1.c, .int .i64 s1.n, .slice s2.A s2.l.length s2.c, .int .i64 s2.n, .slice s3.A s3.l.length s3.c, .int .i64 s3.n, .slice s4.A s4.l.length s4.c, .int .i64 s4.n, .string g, .string o, .slice none 0 0, .string ⟨#[]⟩, .int .i64 0, .string ⟨#[]⟩, .int .i64 0, .string ⟨#[]⟩] (0, 0) _ HD.out Tryz.underlying46 rfl docInfo ?_)
    refine (CC.out w6 (HGL.out.chg HC.out) (Chg.refl _ _)).mono ?_
    rintro e w7 ⟨rfl, hg7⟩
    have HG6 := Lib.hid hg7
    have HD := Lib.hid (hg7.obj HD.out (fun h => h))
    have HZ := Lib.hid (hg7.obj HZ.out (fun h => h))
    have HC := Lib.hid (HC.out.trans hg7 (fun _ h => h.elim))
    clear hg7
    by_cases hk0 : K = 0
    · subst hk0
      go_wp2_with (first | (show wpList _ _ _ (⟨some 39, _, _, _, _, _⟩ :: _) _ _; refine wpList_load_row rfl 46 (.tmp 5) rfl b rfl 46 #[.int .i64 1, .int .i64 v, .int .i64 x, .slice s0.A s0.l.length s0.c, .int .i64 s0.n, .slice s1.A s1.l.length s1.c, .int .i64 s1.n, .slice s2.A s2.l.length s2.c, .int .i64 s2.n, .slice s3.A s3.l.length s3.c, .int .i64 s3.n, .slice s4.A s4.l.length s4.c, .int .i64 s4.n, .string g, .string o, .slice none 0 0, .string ⟨#[]⟩, .int .i64 0, .string ⟨#[]⟩, .int .i64 0, .string ⟨#[]⟩] (0, 0) _ HD.out Tryz.underlying46 rfl docInfo ?_) | (show wpList _ _ _ (⟨none, _, _, _, _, _⟩ :: _) _ _; refine wpList_store_all rfl 46 (.tmp 2) (.tmp 39) rfl b0 #[.int .i64 1, .int .i64 v, .int .i64 x, .slice s0.A s0.l.length s0.c, .int .i64 s0.n, .slice s1.A s1.l.length s1.c, .int .i64 s1.n, .slice s2.A s2.l.length s2.c, .int .i64 s2.n, .slice s3.A s3.l.length s3.c, .int .i64 s3.n, .slice s4.A s4.l.length s4.c, .int .i64 s4.n, .string g, .string o, .slice none 0 0, .string ⟨#[]⟩, .int .i64 0, .string ⟨#[]⟩, .int .i64 0, .string ⟨#[]⟩] #[.int .i64 0, .int .i64 0, .int .i64 0, .slice none 0 0, .int .i64 0, .slice none 0 0, .int .i64 0, .slice none 0 0, .int .i64 0, .slice none 0 0, .int .i64 0, .slice none 0 0, .int .i64 0, .string ⟨#[]⟩, .string ⟨#[]⟩, .slice none 0 0, .string ⟨#[]⟩, .int .i64 0, .string ⟨#[]⟩, .int .i64 0, .string ⟨#[]⟩] 46 rfl rfl HZ.out rfl docInfo (by simp [Value.oneCell']) ?_; intro w9 hb9 hcb9; have HBB := Lib.hid hb9; have HCB := Lib.hid hcb9; clear hb9 hcb9))
      have hb := HBB.out
      have hcb := HCB.out
      exact bodyPost_ret (v := .tuple #[.agg #[.int .i64 1, .int .i64 v, .int .i64 x, .slice s0.A s0.l.length s0.c, .int .i64 s0.n, .slice s1.A s1.l.length s1.c, .int .i64 s1.n, .slice s2.A s2.l.length s2.c, .int .i64 s2.n, .slice s3.A s3.l.length s3.c, .int .i64 s3.n, .slice s4.A s4.l.length s4.c, .int .i64 s4.n, .string g, .string o, .slice none 0 0, .string ⟨#[]⟩, .int .i64 0, .string ⟨#[]⟩, .int .i64 0, .string ⟨#[]⟩], .int .i64 0]) (resDoc (by kernel_rfl) _ _ b0 #[.int .i64 1, .int .i64 v, .int .i64 x, .slice s0.A s0.l.length s0.c, .int .i64 s0.n, .slice s1.A s1.l.length s1.c, .int .i64 s1.n, .slice s2.A s2.l.length s2.c, .int .i64 s2.n, .slice s3.A s3.l.length s3.c, .int .i64 s3.n, .slice s4.A s4.l.length s4.c, .int .i64 s4.n, .string g, .string o, .slice none 0 0, .string ⟨#[]⟩, .int .i64 0, .string ⟨#[]⟩, .int .i64 0, .string ⟨#[]⟩] 0 rfl rfl hb rfl) rfl (⟨1, v, x, s0.A, s0.l.length, s0.c, s0.n, s1.A, s1.l.length, s1.c, s1.n, s2.A, s2.l.length, s2.c, s2.n, s3.A, s3.l.length, s3.c, s3.n, s4.A, s4.l.length, s4.c, s4.n, g, o, none, 0, 0, ⟨#[]⟩, 0, ⟨#[]⟩, 0, ⟨#[]⟩, 0, rfl, HC.out.trans hcb (fun k e => .inr (by rw [e]; exact HBW.out)), .inr rfl, s, 0, fun _ => ⟨rfl, rfl⟩, fun w2 hg cc => by have hE := encode1_calls w2 hg v x s0 s1 s2 s3 s4 g o (fun s hs => SRow.chg (SRow.chg (SRow.chg (HOK.out s hs) HG6.out (fun _ _ h => h)) hcb (fun k e hk => by subst hk; exact SRow.ne (SRow.chg (HOK.out s hs) HG6.out (fun _ _ h => h)) HZ.out (by decide) e)) cc (fun _ _ h => h)) HO.out HKK.out; rw [doc_law s 1 v x (payRt o g [s0, s1, s2, s3, s4]) y4 (TK3.out.trans (HT.out (end_ok y4 HEE.out).1).1) HEE.out] at hE; exact hE⟩)
    · have hk1 : (K == 0) = false := by simpa using hk0
      clear hk0
      go_wp2_with (first | (show wpList _ _ _ (⟨some 38, _, _, _, _, _⟩ :: _) _ _; refine wpList_build_is rfl 46 #[] rfl [] (by simp) #[.int .i64 0, .int .i64 0, .int .i64 0, .slice none 0 0, .int .i64 0, .slice none 0 0, .int .i64 0, .slice none 0 0, .int .i64 0, .slice none 0 0, .int .i64 0, .slice none 0 0, .int .i64 0, .string ⟨#[]⟩, .string ⟨#[]⟩, .slice none 0 0, .string ⟨#[]⟩, .int .i64 0, .string ⟨#[]⟩, .int .i64 0, .string ⟨#[]⟩] built0 ?_) | (show wpList _ _ _ (⟨none, _, _, _, _, _⟩ :: _) _ _; refine wpList_store_all rfl 46 (.tmp 2) (.tmp 38) rfl b0 #[.int .i64 0, .int .i64 0, .int .i64 0, .slice none 0 0, .int .i64 0, .slice none 0 0, .int .i64 0, .slice none 0 0, .int .i64 0, .slice none 0 0, .int .i64 0, .slice none 0 0, .int .i64 0, .string ⟨#[]⟩, .string ⟨#[]⟩, .slice none 0 0, .string ⟨#[]⟩, .int .i64 0, .string ⟨#[]⟩, .int .i64 0, .string ⟨#[]⟩] #[.int .i64 0, .int .i64 0, .int .i64 0, .slice none 0 0, .int .i64 0, .slice none 0 0, .int .i64 0, .slice none 0 0, .int .i64 0, .slice none 0 0, .int .i64 0, .slice none 0 0, .int .i64 0, .string ⟨#[]⟩, .string ⟨#[]⟩, .slice none 0 0, .string ⟨#[]⟩, .int .i64 0, .string ⟨#[]⟩, .int .i64 0, .string ⟨#[]⟩] 46 rfl rfl HZ.out rfl docInfo (by simp [Value.oneCell']) ?_; intro w9 hb9 hcb9; have HBB := Lib.hid hb9; have HCB := Lib.hid hcb9; clear hb9 hcb9))
      have hb := HBB.out
      have hcb := HCB.out
      exact bodyPost_ret (v := .tuple #[.agg #[.int .i64 0, .int .i64 0, .int .i64 0, .slice none 0 0, .int .i64 0, .slice none 0 0, .int .i64 0, .slice none 0 0, .int .i64 0, .slice none 0 0, .int .i64 0, .slice none 0 0, .int .i64 0, .string ⟨#[]⟩, .string ⟨#[]⟩, .slice none 0 0, .string ⟨#[]⟩, .int .i64 0, .string ⟨#[]⟩, .int .i64 0, .string ⟨#[]⟩], .int .i64 3]) (resDoc (by kernel_rfl) _ _ b0 #[.int .i64 0, .int .i64 0, .int .i64 0, .slice none 0 0, .int .i64 0, .slice none 0 0, .int .i64 0, .slice none 0 0, .int .i64 0, .slice none 0 0, .int .i64 0, .slice none 0 0, .int .i64 0, .string ⟨#[]⟩, .string ⟨#[]⟩, .slice none 0 0, .string ⟨#[]⟩, .int .i64 0, .string ⟨#[]⟩, .int .i64 0, .string ⟨#[]⟩] 3 rfl rfl hb rfl) rfl (DecPost.bad s (HC.out.trans hcb (fun k e => .inr (by rw [e]; exact HBW.out))))
  · have he1 : (EE == 0) = false := by simpa using he
    have he2 : (EE != 0) = true := by rw [bne, he1]; rfl
    have he3 : ¬ EE = 0 := he
    clear he
    go_wp2_with (first | (show wpList _ _ _ (⟨some 38, _, _, _, _, _⟩ :: _) _ _; refine wpList_build_is rfl 46 #[] rfl [] (by simp) #[.int .i64 0, .int .i64 0, .int .i64 0, .slice none 0 0, .int .i64 0, .slice none 0 0, .int .i64 0, .slice none 0 0, .int .i64 0, .slice none 0 0, .int .i64 0, .slice none 0 0, .int .i64 0, .string ⟨#[]⟩, .string ⟨#[]⟩, .slice none 0 0, .string ⟨#[]⟩, .int .i64 0, .string ⟨#[]⟩, .int .i64 0, .string ⟨#[]⟩] built0 ?_) | (show wpList _ _ _ (⟨none, _, _, _, _, _⟩ :: _) _ _; refine wpList_store_all rfl 46 (.tmp 2) (.tmp 38) rfl b0 #[.int .i64 0, .int .i64 0, .int .i64 0, .slice none 0 0, .int .i64 0, .slice none 0 0, .int .i64 0, .slice none 0 0, .int .i64 0, .slice none 0 0, .int .i64 0, .slice none 0 0, .int .i64 0, .string ⟨#[]⟩, .string ⟨#[]⟩, .slice none 0 0, .string ⟨#[]⟩, .int .i64 0, .string ⟨#[]⟩, .int .i64 0, .string ⟨#[]⟩] #[.int .i64 0, .int .i64 0, .int .i64 0, .slice none 0 0, .int .i64 0, .slice none 0 0, .int .i64 0, .slice none 0 0, .int .i64 0, .slice none 0 0, .int .i64 0, .slice none 0 0, .int .i64 0, .string ⟨#[]⟩, .string ⟨#[]⟩, .slice none 0 0, .string ⟨#[]⟩, .int .i64 0, .string ⟨#[]⟩, .int .i64 0, .string ⟨#[]⟩] 46 rfl rfl HZ.out rfl docInfo (by simp [Value.oneCell']) ?_; intro w9 hb9 hcb9; have HBB := Lib.hid hb9; have HCB := Lib.hid hcb9; clear hb9 hcb9))
    have hb := HBB.out
    have hcb := HCB.out
    exact bodyPost_ret (v := .tuple #[.agg #[.int .i64 0, .int .i64 0, .int .i64 0, .slice none 0 0, .int .i64 0, .slice none 0 0, .int .i64 0, .slice none 0 0, .int .i64 0, .slice none 0 0, .int .i64 0, .slice none 0 0, .int .i64 0, .string ⟨#[]⟩, .string ⟨#[]⟩, .slice none 0 0, .string ⟨#[]⟩, .int .i64 0, .string ⟨#[]⟩, .int .i64 0, .string ⟨#[]⟩], .int .i64 3]) (resDoc (by kernel_rfl) _ _ b0 #[.int .i64 0, .int .i64 0, .int .i64 0, .slice none 0 0, .int .i64 0, .slice none 0 0, .int .i64 0, .slice none 0 0, .int .i64 0, .slice none 0 0, .int .i64 0, .slice none 0 0, .int .i64 0, .string ⟨#[]⟩, .string ⟨#[]⟩, .slice none 0 0, .string ⟨#[]⟩, .int .i64 0, .string ⟨#[]⟩, .int .i64 0, .string ⟨#[]⟩] 3 rfl rfl hb rfl) rfl (DecPost.bad s (HC.out.trans hcb (fun k e => .inr (by rw [e]; exact HBW.out))))
set_option maxRecDepth 100000 in
set_option maxHeartbeats 4000000 in
theorem decode2_calls (w : World) (hgl : Glob w) (s : ByteArray) (hs : s.size ≤ 1048576) (hk : (numF (s, 0) 1).1 = 2) :
    Calls Tryz.prog 10 #[.string s] w (DecPost s w) := by
  have HGL := Lib.hid hgl
  have CF := Lib.hid (fun w' => forms2 w')
  clear hgl
  have HS := Lib.hid hs
  have tk := took_num (s, 0) 1 (by omega)
  obtain ⟨y1, hy1⟩ : ∃ y1, (numF (s, 0) ((1 : Nat) : Int)).2 = y1 := ⟨_, rfl⟩
  have hk2 : (numF (s, 0) ((1 : Nat) : Int)).1 = 2 := hk
  have hy2 : (numF (s, 0) 1).2 = y1 := hy1
  have hs1 := numF_size (s, 0) 1
  rw [hy2] at hs1
  rw [hk2, hy1] at tk
  have CK := Lib.hid (fun w rb h => Byte_calls w rb (s, 0) h (by have : s.size ≤ 1048576 := hs; show s.size ≤ _; omega))
  rw [hk, hy2] at CK
  have TK1 := Lib.hid tk
  have HS1 : Hid (y1.1.size ≤ 1048576) := Lib.hid (Nat.le_trans hs1 hs)
  clear tk hk hk2 hy1 hy2 hs1 hs
  go_enter Tryz.func10, Tryz.ntmps10
  go_wp2_with fail
  obtain ⟨b0, hb0⟩ : ∃ b, w.heap.size = b := ⟨_, rfl⟩
  obtain ⟨W0, hW⟩ : ∃ W0, w.alloc (.cells #[.int .i64 0, .int .i64 0, .int .i64 0, .slice none 0 0, .int .i64 0, .slice none 0 0, .int .i64 0, .slice none 0 0, .int .i64 0, .slice none 0 0, .int .i64 0, .slice none 0 0, .int .i64 0, .string ⟨#[]⟩, .string ⟨#[]⟩, .slice none 0 0, .string ⟨#[]⟩, .int .i64 0, .string ⟨#[]⟩, .int .i64 0, .string ⟨#[]⟩] 46) = W0 := ⟨_, rfl⟩
  have hz0 : DAt W0 b0 #[.int .i64 0, .int .i64 0, .int .i64 0, .slice none 0 0, .int .i64 0, .slice none 0 0, .int .i64 0, .slice none 0 0, .int .i64 0, .slice none 0 0, .int .i64 0, .slice none 0 0, .int .i64 0, .string ⟨#[]⟩, .string ⟨#[]⟩, .slice none 0 0, .string ⟨#[]⟩, .int .i64 0, .string ⟨#[]⟩, .int .i64 0, .string ⟨#[]⟩] := by rw [← hW, ← hb0]; exact blkAlloc w _
  have hc0 : Chg (fun _ => False) w W0 := by rw [← hW]; exact (Chg.refl _ w).alloc _
  have HBW : Hid (w.heap.size ≤ b0) := Lib.hid (Nat.le_of_eq hb0)
  simp only [hW]
  simp only [hb0]
  clear hW hb0
  refine (pRead_calls W0 s).mono ?_
  rintro e w1 ⟨rfl, he⟩
  obtain ⟨rb, hrb⟩ : ∃ rb, W0.heap.size = rb := ⟨_, rfl⟩
  have hrd : RdAt w1 113 rb (s, 0) := by rw [he, ← hrb]; exact blkAlloc W0 _
  have HZ1 : Hid (DAt w1 b0 #[.int .i64 0, .int .i64 0, .int .i64 0, .slice none 0 0, .int .i64 0, .slice none 0 0, .int .i64 0, .slice none 0 0, .int .i64 0, .slice none 0 0, .int .i64 0, .slice none 0 0, .int .i64 0, .string ⟨#[]⟩, .string ⟨#[]⟩, .slice none 0 0, .string ⟨#[]⟩, .int .i64 0, .string ⟨#[]⟩, .int .i64 0, .string ⟨#[]⟩]) := Lib.hid (by rw [he]; exact blkOld hz0 _)
  have HC1 : Hid (Chg (fun _ => False) w w1) := Lib.hid (by rw [he]; exact hc0.alloc _)
  have HRW : Hid (w.heap.size ≤ rb) := Lib.hid (by rw [← hrb]; exact hc0.size)
  have HRD1 := Lib.hid hrd
  simp only [hrb]
  clear he hrb hrd hz0 hc0
  go_wp2_with fail
  refine (CK.out w1 rb HRD1.out).mono ?_
  rintro e w2 ⟨rfl, hr2, hg2⟩
  have HZ2 := Lib.hid (DAt.rd HZ1.out HRD1.out hg2)
  have HC2 := Lib.hid (HC1.out.trans hg2 (fun k e => .inr (by rw [e]; exact HRW.out)))
  have HRD2 := Lib.hid hr2
  clear hr2 hg2
  simp only []
  rename_i aK
  refine aK _ _ ?_
  refine wpList_build_is rfl 46 #[(0, .tmp 11)] rfl [(0, .int .i64 2)] (by simp [Act.eval]) #[.int .i64 2, .int .i64 0, .int .i64 0, .slice none 0 0, .int .i64 0, .slice none 0 0, .int .i64 0, .slice none 0 0, .int .i64 0, .slice none 0 0, .int .i64 0, .slice none 0 0, .int .i64 0, .string ⟨#[]⟩, .string ⟨#[]⟩, .slice none 0 0, .string ⟨#[]⟩, .int .i64 0, .string ⟨#[]⟩, .int .i64 0, .string ⟨#[]⟩] (builtK 2) ?_
  clear aK
  go_wp2_with (first
    | (show wpList _ _ _ (⟨none, _, _, _, _, _⟩ :: _) _ _; refine wpList_store_all rfl 46 (.tmp 5) (.tmp 12) rfl w2.heap.size #[.int .i64 2, .int .i64 0, .int .i64 0, .slice none 0 0, .int .i64 0, .slice none 0 0, .int .i64 0, .slice none 0 0, .int .i64 0, .slice none 0 0, .int .i64 0, .slice none 0 0, .int .i64 0, .string ⟨#[]⟩, .string ⟨#[]⟩, .slice none 0 0, .string ⟨#[]⟩, .int .i64 0, .string ⟨#[]⟩, .int .i64 0, .string ⟨#[]⟩] #[.int .i64 0, .int .i64 0, .int .i64 0, .slice none 0 0, .int .i64 0, .slice none 0 0, .int .i64 0, .slice none 0 0, .int .i64 0, .slice none 0 0, .int .i64 0, .slice none 0 0, .int .i64 0, .string ⟨#[]⟩, .string ⟨#[]⟩, .slice none 0 0, .string ⟨#[]⟩, .int .i64 0, .string ⟨#[]⟩, .int .i64 0, .string ⟨#[]⟩] 46 rfl rfl (blkAlloc w2 _) rfl docInfo (by simp [Value.oneCell']) ?_; intro W2 hd2 hcs; have HD2 := Lib.hid hd2; have HC2' := Lib.hid hcs; clear hd2 hcs))
  obtain ⟨b, hb⟩ : ∃ b, w2.heap.size = b := ⟨_, rfl⟩
  have hd2 : DAt W2 b #[.int .i64 2, .int .i64 0, .int .i64 0, .slice none 0 0, .int .i64 0, .slice none 0 0, .int .i64 0, .slice none 0 0, .int .i64 0, .slice none 0 0, .int .i64 0, .slice none 0 0, .int .i64 0, .string ⟨#[]⟩, .string ⟨#[]⟩, .slice none 0 0, .string ⟨#[]⟩, .int .i64 0, .string ⟨#[]⟩, .int .i64 0, .string ⟨#[]⟩] := by rw [← hb]; exact HD2.out
  have hcw : Chg (fun _ => False) w2 W2 := ((Chg.refl (fun _ => False) w2).alloc _).trans HC2'.out (fun k e => .inr (Nat.le_of_eq e.symm))
  have HDW : Hid (w.heap.size ≤ b) := Lib.hid (by rw [← hb]; exact HC2.out.size)
  have HNE : Hid (b0 ≠ b) := Lib.hid (by have := blkLt HZ2.out; omega)
  have HD := Lib.hid hd2
  have HZ := Lib.hid (hcw.obj HZ2.out (fun h => h))
  have HC := Lib.hid (HC2.out.trans hcw (fun _ h => h.elim))
  have HRD := Lib.hid (HRD2.out.chg hcw (fun h => h))
  simp only [hb]
  clear hb hd2 hcw HD2 HC2'
  have CR := Lib.hid (Two_calls W2 rb y1 HRD.out (by have := HS1.out; omega))
  have tk := took_num y1 2 (by omega)
  have hs1 := numF_size y1 2
  obtain ⟨v, hv⟩ : ∃ f, (numF y1 ((2 : Nat) : Int)).1 = f := ⟨_, rfl⟩
  obtain ⟨y2, hy⟩ : ∃ y, (numF y1 ((2 : Nat) : Int)).2 = y := ⟨_, rfl⟩
  have hv2 : (numF y1 2).1 = v := hv
  have hy2 : (numF y1 2).2 = y2 := hy
  rw [hv, hy] at tk
  rw [hy2] at hs1
  rw [hv2, hy2] at CR
  have TK2 := Lib.hid (TK1.out.trans tk)
  have HS2 := Lib.hid (Nat.le_trans hs1 HS1.out)
  clear tk hs1 hv hy hv2 hy2
  refine (CR.out).mono ?_
  rintro e w3 ⟨rfl, hr3, hg3⟩
  have hd3 : DAt w3 b #[.int .i64 2, .int .i64 0, .int .i64 0, .slice none 0 0, .int .i64 0, .slice none 0 0, .int .i64 0, .slice none 0 0, .int .i64 0, .slice none 0 0, .int .i64 0, .slice none 0 0, .int .i64 0, .string ⟨#[]⟩, .string ⟨#[]⟩, .slice none 0 0, .string ⟨#[]⟩, .int .i64 0, .string ⟨#[]⟩, .int .i64 0, .string ⟨#[]⟩] := DAt.rd HD.out HRD.out hg3
  have a1 : w3.cell? ⟨b, 1, none⟩ = some (.int .i64 0) := blkCell hd3 1
  have b1 := blkFree hd3 1
  have h1 := blkSet hd3 1 (.int .i64 v)
  have gc : Chg (fun k => k = b) w3 (w3.setCell ⟨b, 1, none⟩ (.int .i64 v)) := (Chg.refl (fun k => k = b) w3).cellOf 1 _
  have HD : Hid (DAt (w3.setCell ⟨b, 1, none⟩ (.int .i64 v)) b #[.int .i64 2, .int .i64 v, .int .i64 0, .slice none 0 0, .int .i64 0, .slice none 0 0, .int .i64 0, .slice none 0 0, .int .i64 0, .slice none 0 0, .int .i64 0, .slice none 0 0, .int .i64 0, .string ⟨#[]⟩, .string ⟨#[]⟩, .slice none 0 0, .string ⟨#[]⟩, .int .i64 0, .string ⟨#[]⟩, .int .i64 0, .string ⟨#[]⟩]) := Lib.hid (by simpa [DAt] using h1)
  have HZ := Lib.hid (gc.obj (DAt.rd HZ.out HRD.out hg3) HNE.out)
  have HRD := Lib.hid (RdAt.doc hd3 hr3 gc)
  have HC := Lib.hid ((HC.out.trans hg3 (fun k e => .inr (by rw [e]; exact HRW.out))).trans gc (fun k e => .inr (by rw [e]; exact HDW.out)))
  clear hr3 hg3 hd3 h1 gc
  go_wp2_with fail
  obtain ⟨W2, hW2⟩ : ∃ W, w3.setCell ⟨b, 1, none⟩ (.int .i64 v) = W := ⟨_, rfl⟩
  rw [hW2] at HD HZ HRD HC
  simp only [hW2]
  clear hW2 a1 b1
  have CR := Lib.hid (Eight_calls W2 rb y2 HRD.out (by have := HS2.out; omega))
  have tk := took_eight y2
  have hs1 : (numF (eightF y2) 8).2.1.size ≤ y2.1.size := by
    have h1 := numF_size (eightF y2) 8
    rwa [eightF_left] at h1
  obtain ⟨x, hv⟩ : ∃ f, (numF (eightF y2) 8).1 = f := ⟨_, rfl⟩
  obtain ⟨y3, hy⟩ : ∃ y, (numF (eightF y2) 8).2 = y := ⟨_, rfl⟩
  rw [hv, hy] at tk CR
  rw [hy] at hs1
  have TK3 := Lib.hid (TK2.out.trans tk.1)
  have HS3 := Lib.hid (Nat.le_trans hs1 HS2.out)
  clear tk hs1 hv hy
  refine (CR.out).mono ?_
  rintro e w3 ⟨rfl, hr3, hg3⟩
  have hd3 : DAt w3 b #[.int .i64 2, .int .i64 v, .int .i64 0, .slice none 0 0, .int .i64 0, .slice none 0 0, .int .i64 0, .slice none 0 0, .int .i64 0, .slice none 0 0, .int .i64 0, .slice none 0 0, .int .i64 0, .string ⟨#[]⟩, .string ⟨#[]⟩, .slice none 0 0, .string ⟨#[]⟩, .int .i64 0, .string ⟨#[]⟩, .int .i64 0, .string ⟨#[]⟩] := DAt.rd HD.out HRD.out hg3
  have a2 : w3.cell? ⟨b, 2, none⟩ = some (.int .i64 0) := blkCell hd3 2
  have b2 := blkFree hd3 2
  have h2 := blkSet hd3 2 (.int .i64 x)
  have gc : Chg (fun k => k = b) w3 (w3.setCell ⟨b, 2, none⟩ (.int .i64 x)) := (Chg.refl (fun k => k = b) w3).cellOf 2 _
  have HD : Hid (DAt (w3.setCell ⟨b, 2, none⟩ (.int .i64 x)) b #[.int .i64 2, .int .i64 v, .int .i64 x, .slice none 0 0, .int .i64 0, .slice none 0 0, .int .i64 0, .slice none 0 0, .int .i64 0, .slice none 0 0, .int .i64 0, .slice none 0 0, .int .i64 0, .string ⟨#[]⟩, .string ⟨#[]⟩, .slice none 0 0, .string ⟨#[]⟩, .int .i64 0, .string ⟨#[]⟩, .int .i64 0, .string ⟨#[]⟩]) := Lib.hid (by simpa [DAt] using h2)
  have HZ := Lib.hid (gc.obj (DAt.rd HZ.out HRD.out hg3) HNE.out)
  have HRD := Lib.hid (RdAt.doc hd3 hr3 gc)
  have HC := Lib.hid ((HC.out.trans hg3 (fun k e => .inr (by rw [e]; exact HRW.out))).trans gc (fun k e => .inr (by rw [e]; exact HDW.out)))
  have k0 : (w3.setCell ⟨b, 2, none⟩ (.int .i64 x)).cell? ⟨b, 0, none⟩ = some (.int .i64 2) := blkCell HD.out 0
  clear hr3 hg3 hd3 h2 gc
  go_wp2_with fail
  obtain ⟨W2, hW2⟩ : ∃ W, w3.setCell ⟨b, 2, none⟩ (.int .i64 x) = W := ⟨_, rfl⟩
  rw [hW2] at HD HZ HRD HC
  simp only [hW2]
  clear hW2 a2 b2 k0
  refine (CF.out W2).mono ?_
  rintro e w4 ⟨rfl, hc4⟩
  go_wp2_with fail
  obtain ⟨fb, hfb⟩ : ∃ f, w4.heap.size = f := ⟨_, rfl⟩
  obtain ⟨W4, hW4⟩ : ∃ W, w4.alloc (.cells #[.func (.func 77) #[] #[], .func (.func 78) #[] #[], .func (.func 79) #[] #[], .func (.func 80) #[] #[]] 89) = W := ⟨_, rfl⟩
  have hfo : W4.heap[fb]? = some (.cells #[.func (.func 77) #[] #[], .func (.func 78) #[] #[], .func (.func 79) #[] #[], .func (.func 80) #[] #[]] 89 (0, 0)) := by rw [← hW4, ← hfb]; exact blkAlloc w4 _
  have hc5 : Chg (fun _ => False) W2 W4 := by rw [← hW4]; exact hc4.alloc _
  have HD := Lib.hid (hc5.obj HD.out (fun h => h))
  have HZ := Lib.hid (hc5.obj HZ.out (fun h => h))
  have HRD := Lib.hid (HRD.out.chg hc5 (fun h => h))
  have HC := Lib.hid (HC.out.trans hc5 (fun _ h => h.elim))
  have g2 : W4.cell? ⟨fb, 2, none⟩ = some (.func (.func 79) #[] #[]) := blkCell hfo 2
  try simp only [hW4]
  try simp only [hfb]
  clear hW4 hfb hfo hc5 hc4
  go_wp2_with fail
  clear g2
  refine (takeTargets_calls W4 b rb 2 v x y3 HD.out HRD.out HS3.out).mono ?_
  rintro e w5 ⟨rfl, l, A, c, r, y4, hd4, hr4, hrow4, hl4, hc4, ht4⟩
  have HOK := Lib.hid hrow4; have HO := Lib.hid (show l.length ≤ 1048576 by omega); clear hrow4
  have HZ := Lib.hid (hc4.obj HZ.out (fun h => h.elim HNE.out (fun e => blkNe HZ.out HRD.out (by decide) e)))
  have HC := Lib.hid (HC.out.trans hc4 (fun k e => .inr (e.elim (fun e => by rw [e]; exact HDW.out) (fun e => by rw [e]; exact HRW.out))))
  have HD := Lib.hid hd4
  have HRD := Lib.hid hr4
  have HT := Lib.hid ht4
  clear hd4 hr4 hc4 ht4
  go_wp2_with fail
  refine (End_calls w5 rb y4 HRD.out).mono ?_
  rintro e w6 ⟨rfl, hr6, hg⟩
  have HOK := Lib.hid (SRow.chg HOK.out hg (fun k e hk => by subst hk; exact SRow.ne HOK.out HRD.out (by decide) e))
  have HD := Lib.hid (DAt.rd HD.out HRD.out hg)
  have HZ := Lib.hid (DAt.rd HZ.out HRD.out hg)
  have HC := Lib.hid (HC.out.trans hg (fun k e => .inr (by rw [e]; exact HRW.out)))
  obtain ⟨EE, hE⟩ : ∃ E, (endF y4).2 = E := ⟨_, rfl⟩
  have HEE := Lib.hid hE
  simp only [hE]
  clear hE hr6 hg
  by_cases he : EE = 0
  · subst he
    have CC := Lib.hid (fun w' hg (c1 : Chg (fun _ => False) w6 w') => check2_calls w' hg v x A c r l (SRow.chg HOK.out c1 (fun _ _ h => h)) HO.out)
    obtain ⟨K, hK⟩ : ∃ K, chkF v x (goodTg l) = K := ⟨_, rfl⟩
    rw [hK] at CC
    have HKK := Lib.hid hK
    clear hK
    go_wp2_with (show wpList _ _ _ (⟨some 34, _, _, _, _, _⟩ :: _) _ _; refine wpList_load_rowG (by go_simp) 46 (.tmp 5) rfl b rfl 46 #[.int .i64 2, .int .i64 v, .int .i64 x, .slice none 0 0, .int .i64 0, .slice none 0 0, .int .i64 0, .slice none 0 0, .int .i64 0, .slice none 0 0, .int .i64 0, .slice none 0 0, .int .i64 0, .string ⟨#[]⟩, .string ⟨#[]⟩, .slice A l.length c, .string ⟨#[]⟩, .int .i64 0, .string ⟨#[]⟩, .int .i64 0, .string ⟨#[]⟩] (0, 0) _ HD.out Tryz.underlying46 rfl docInfo ?_)
    refine (CC.out w6 (HGL.out.chg HC.out) (Chg.refl _ _)).mono ?_
    rintro e w7 ⟨rfl, hg7⟩
    have HG6 := Lib.hid hg7
    have HD := Lib.hid (hg7.obj HD.out (fun h => h))
    have HZ := Lib.hid (hg7.obj HZ.out (fun h => h))
    have HC := Lib.hid (HC.out.trans hg7 (fun _ h => h.elim))
    clear hg7
    by_cases hk0 : K = 0
    · subst hk0
      go_wp2_with (first | (show wpList _ _ _ (⟨some 39, _, _, _, _, _⟩ :: _) _ _; refine wpList_load_row rfl 46 (.tmp 5) rfl b rfl 46 #[.int .i64 2, .int .i64 v, .int .i64 x, .slice none 0 0, .int .i64 0, .slice none 0 0, .int .i64 0, .slice none 0 0, .int .i64 0, .slice none 0 0, .int .i64 0, .slice none 0 0, .int .i64 0, .string ⟨#[]⟩, .string ⟨#[]⟩, .slice A l.length c, .string ⟨#[]⟩, .int .i64 0, .string ⟨#[]⟩, .int .i64 0, .string ⟨#[]⟩] (0, 0) _ HD.out Tryz.underlying46 rfl docInfo ?_) | (show wpList _ _ _ (⟨none, _, _, _, _, _⟩ :: _) _ _; refine wpList_store_all rfl 46 (.tmp 2) (.tmp 39) rfl b0 #[.int .i64 2, .int .i64 v, .int .i64 x, .slice none 0 0, .int .i64 0, .slice none 0 0, .int .i64 0, .slice none 0 0, .int .i64 0, .slice none 0 0, .int .i64 0, .slice none 0 0, .int .i64 0, .string ⟨#[]⟩, .string ⟨#[]⟩, .slice A l.length c, .string ⟨#[]⟩, .int .i64 0, .string ⟨#[]⟩, .int .i64 0, .string ⟨#[]⟩] #[.int .i64 0, .int .i64 0, .int .i64 0, .slice none 0 0, .int .i64 0, .slice none 0 0, .int .i64 0, .slice none 0 0, .int .i64 0, .slice none 0 0, .int .i64 0, .slice none 0 0, .int .i64 0, .string ⟨#[]⟩, .string ⟨#[]⟩, .slice none 0 0, .string ⟨#[]⟩, .int .i64 0, .string ⟨#[]⟩, .int .i64 0, .string ⟨#[]⟩] 46 rfl rfl HZ.out rfl docInfo (by simp [Value.oneCell']) ?_; intro w9 hb9 hcb9; have HBB := Lib.hid hb9; have HCB := Lib.hid hcb9; clear hb9 hcb9))
      have hb := HBB.out
      have hcb := HCB.out
      exact bodyPost_ret (v := .tuple #[.agg #[.int .i64 2, .int .i64 v, .int .i64 x, .slice none 0 0, .int .i64 0, .slice none 0 0, .int .i64 0, .slice none 0 0, .int .i64 0, .slice none 0 0, .int .i64 0, .slice none 0 0, .int .i64 0, .string ⟨#[]⟩, .string ⟨#[]⟩, .slice A l.length c, .string ⟨#[]⟩, .int .i64 0, .string ⟨#[]⟩, .int .i64 0, .string ⟨#[]⟩], .int .i64 0]) (resDoc (by kernel_rfl) _ _ b0 #[.int .i64 2, .int .i64 v, .int .i64 x, .slice none 0 0, .int .i64 0, .slice none 0 0, .int .i64 0, .slice none 0 0, .int .i64 0, .slice none 0 0, .int .i64 0, .slice none 0 0, .int .i64 0, .string ⟨#[]⟩, .string ⟨#[]⟩, .slice A l.length c, .string ⟨#[]⟩, .int .i64 0, .string ⟨#[]⟩, .int .i64 0, .string ⟨#[]⟩] 0 rfl rfl hb rfl) rfl (⟨2, v, x, none, 0, 0, 0, none, 0, 0, 0, none, 0, 0, 0, none, 0, 0, 0, none, 0, 0, 0, ⟨#[]⟩, ⟨#[]⟩, A, l.length, c, ⟨#[]⟩, 0, ⟨#[]⟩, 0, ⟨#[]⟩, 0, rfl, HC.out.trans hcb (fun k e => .inr (by rw [e]; exact HBW.out)), .inr rfl, s, 0, fun _ => ⟨rfl, rfl⟩, fun w2 hg cc => by have hE := encode2_calls w2 hg v x A c r l (SRow.chg (SRow.chg (SRow.chg HOK.out HG6.out (fun _ _ h => h)) hcb (fun k e hk => by subst hk; exact SRow.ne (SRow.chg HOK.out HG6.out (fun _ _ h => h)) HZ.out (by decide) e)) cc (fun _ _ h => h)) HO.out HKK.out; rw [doc_law s 2 v x (payTg l) y4 (TK3.out.trans (HT.out (end_ok y4 HEE.out).1).1) HEE.out] at hE; exact hE⟩)
    · have hk1 : (K == 0) = false := by simpa using hk0
      clear hk0
      go_wp2_with (first | (show wpList _ _ _ (⟨some 38, _, _, _, _, _⟩ :: _) _ _; refine wpList_build_is rfl 46 #[] rfl [] (by simp) #[.int .i64 0, .int .i64 0, .int .i64 0, .slice none 0 0, .int .i64 0, .slice none 0 0, .int .i64 0, .slice none 0 0, .int .i64 0, .slice none 0 0, .int .i64 0, .slice none 0 0, .int .i64 0, .string ⟨#[]⟩, .string ⟨#[]⟩, .slice none 0 0, .string ⟨#[]⟩, .int .i64 0, .string ⟨#[]⟩, .int .i64 0, .string ⟨#[]⟩] built0 ?_) | (show wpList _ _ _ (⟨none, _, _, _, _, _⟩ :: _) _ _; refine wpList_store_all rfl 46 (.tmp 2) (.tmp 38) rfl b0 #[.int .i64 0, .int .i64 0, .int .i64 0, .slice none 0 0, .int .i64 0, .slice none 0 0, .int .i64 0, .slice none 0 0, .int .i64 0, .slice none 0 0, .int .i64 0, .slice none 0 0, .int .i64 0, .string ⟨#[]⟩, .string ⟨#[]⟩, .slice none 0 0, .string ⟨#[]⟩, .int .i64 0, .string ⟨#[]⟩, .int .i64 0, .string ⟨#[]⟩] #[.int .i64 0, .int .i64 0, .int .i64 0, .slice none 0 0, .int .i64 0, .slice none 0 0, .int .i64 0, .slice none 0 0, .int .i64 0, .slice none 0 0, .int .i64 0, .slice none 0 0, .int .i64 0, .string ⟨#[]⟩, .string ⟨#[]⟩, .slice none 0 0, .string ⟨#[]⟩, .int .i64 0, .string ⟨#[]⟩, .int .i64 0, .string ⟨#[]⟩] 46 rfl rfl HZ.out rfl docInfo (by simp [Value.oneCell']) ?_; intro w9 hb9 hcb9; have HBB := Lib.hid hb9; have HCB := Lib.hid hcb9; clear hb9 hcb9))
      have hb := HBB.out
      have hcb := HCB.out
      exact bodyPost_ret (v := .tuple #[.agg #[.int .i64 0, .int .i64 0, .int .i64 0, .slice none 0 0, .int .i64 0, .slice none 0 0, .int .i64 0, .slice none 0 0, .int .i64 0, .slice none 0 0, .int .i64 0, .slice none 0 0, .int .i64 0, .string ⟨#[]⟩, .string ⟨#[]⟩, .slice none 0 0, .string ⟨#[]⟩, .int .i64 0, .string ⟨#[]⟩, .int .i64 0, .string ⟨#[]⟩], .int .i64 3]) (resDoc (by kernel_rfl) _ _ b0 #[.int .i64 0, .int .i64 0, .int .i64 0, .slice none 0 0, .int .i64 0, .slice none 0 0, .int .i64 0, .slice none 0 0, .int .i64 0, .slice none 0 0, .int .i64 0, .slice none 0 0, .int .i64 0, .string ⟨#[]⟩, .string ⟨#[]⟩, .slice none 0 0, .string ⟨#[]⟩, .int .i64 0, .string ⟨#[]⟩, .int .i64 0, .string ⟨#[]⟩] 3 rfl rfl hb rfl) rfl (DecPost.bad s (HC.out.trans hcb (fun k e => .inr (by rw [e]; exact HBW.out))))
  · have he1 : (EE == 0) = false := by simpa using he
    have he2 : (EE != 0) = true := by rw [bne, he1]; rfl
    have he3 : ¬ EE = 0 := he
    clear he
    go_wp2_with (first | (show wpList _ _ _ (⟨some 38, _, _, _, _, _⟩ :: _) _ _; refine wpList_build_is rfl 46 #[] rfl [] (by simp) #[.int .i64 0, .int .i64 0, .int .i64 0, .slice none 0 0, .int .i64 0, .slice none 0 0, .int .i64 0, .slice none 0 0, .int .i64 0, .slice none 0 0, .int .i64 0, .slice none 0 0, .int .i64 0, .string ⟨#[]⟩, .string ⟨#[]⟩, .slice none 0 0, .string ⟨#[]⟩, .int .i64 0, .string ⟨#[]⟩, .int .i64 0, .string ⟨#[]⟩] built0 ?_) | (show wpList _ _ _ (⟨none, _, _, _, _, _⟩ :: _) _ _; refine wpList_store_all rfl 46 (.tmp 2) (.tmp 38) rfl b0 #[.int .i64 0, .int .i64 0, .int .i64 0, .slice none 0 0, .int .i64 0, .slice none 0 0, .int .i64 0, .slice none 0 0, .int .i64 0, .slice none 0 0, .int .i64 0, .slice none 0 0, .int .i64 0, .string ⟨#[]⟩, .string ⟨#[]⟩, .slice none 0 0, .string ⟨#[]⟩, .int .i64 0, .string ⟨#[]⟩, .int .i64 0, .string ⟨#[]⟩] #[.int .i64 0, .int .i64 0, .int .i64 0, .slice none 0 0, .int .i64 0, .slice none 0 0, .int .i64 0, .slice none 0 0, .int .i64 0, .slice none 0 0, .int .i64 0, .slice none 0 0, .int .i64 0, .string ⟨#[]⟩, .string ⟨#[]⟩, .slice none 0 0, .string ⟨#[]⟩, .int .i64 0, .string ⟨#[]⟩, .int .i64 0, .string ⟨#[]⟩] 46 rfl rfl HZ.out rfl docInfo (by simp [Value.oneCell']) ?_; intro w9 hb9 hcb9; have HBB := Lib.hid hb9; have HCB := Lib.hid hcb9; clear hb9 hcb9))
    have hb := HBB.out
    have hcb := HCB.out
    exact bodyPost_ret (v := .tuple #[.agg #[.int .i64 0, .int .i64 0, .int .i64 0, .slice none 0 0, .int .i64 0, .slice none 0 0, .int .i64 0, .slice none 0 0, .int .i64 0, .slice none 0 0, .int .i64 0, .slice none 0 0, .int .i64 0, .string ⟨#[]⟩, .string ⟨#[]⟩, .slice none 0 0, .string ⟨#[]⟩, .int .i64 0, .string ⟨#[]⟩, .int .i64 0, .string ⟨#[]⟩], .int .i64 3]) (resDoc (by kernel_rfl) _ _ b0 #[.int .i64 0, .int .i64 0, .int .i64 0, .slice none 0 0, .int .i64 0, .slice none 0 0, .int .i64 0, .slice none 0 0, .int .i64 0, .slice none 0 0, .int .i64 0, .slice none 0 0, .int .i64 0, .string ⟨#[]⟩, .string ⟨#[]⟩, .slice none 0 0, .string ⟨#[]⟩, .int .i64 0, .string ⟨#[]⟩, .int .i64 0, .string ⟨#[]⟩] 3 rfl rfl hb rfl) rfl (DecPost.bad s (HC.out.trans hcb (fun k e => .inr (by rw [e]; exact HBW.out))))
set_option maxRecDepth 100000 in
set_option maxHeartbeats 4000000 in
theorem decode3_calls (w : World) (hgl : Glob w) (s : ByteArray) (hs : s.size ≤ 1048576) (hk : (numF (s, 0) 1).1 = 3) :
    Calls Tryz.prog 10 #[.string s] w (DecPost s w) := by
  have HGL := Lib.hid hgl
  have CF := Lib.hid (fun w' => forms3 w')
  clear hgl
  have HS := Lib.hid hs
  have tk := took_num (s, 0) 1 (by omega)
  obtain ⟨y1, hy1⟩ : ∃ y1, (numF (s, 0) ((1 : Nat) : Int)).2 = y1 := ⟨_, rfl⟩
  have hk2 : (numF (s, 0) ((1 : Nat) : Int)).1 = 3 := hk
  have hy2 : (numF (s, 0) 1).2 = y1 := hy1
  have hs1 := numF_size (s, 0) 1
  rw [hy2] at hs1
  rw [hk2, hy1] at tk
  have CK := Lib.hid (fun w rb h => Byte_calls w rb (s, 0) h (by have : s.size ≤ 1048576 := hs; show s.size ≤ _; omega))
  rw [hk, hy2] at CK
  have TK1 := Lib.hid tk
  have HS1 : Hid (y1.1.size ≤ 1048576) := Lib.hid (Nat.le_trans hs1 hs)
  clear tk hk hk2 hy1 hy2 hs1 hs
  go_enter Tryz.func10, Tryz.ntmps10
  go_wp2_with fail
  obtain ⟨b0, hb0⟩ : ∃ b, w.heap.size = b := ⟨_, rfl⟩
  obtain ⟨W0, hW⟩ : ∃ W0, w.alloc (.cells #[.int .i64 0, .int .i64 0, .int .i64 0, .slice none 0 0, .int .i64 0, .slice none 0 0, .int .i64 0, .slice none 0 0, .int .i64 0, .slice none 0 0, .int .i64 0, .slice none 0 0, .int .i64 0, .string ⟨#[]⟩, .string ⟨#[]⟩, .slice none 0 0, .string ⟨#[]⟩, .int .i64 0, .string ⟨#[]⟩, .int .i64 0, .string ⟨#[]⟩] 46) = W0 := ⟨_, rfl⟩
  have hz0 : DAt W0 b0 #[.int .i64 0, .int .i64 0, .int .i64 0, .slice none 0 0, .int .i64 0, .slice none 0 0, .int .i64 0, .slice none 0 0, .int .i64 0, .slice none 0 0, .int .i64 0, .slice none 0 0, .int .i64 0, .string ⟨#[]⟩, .string ⟨#[]⟩, .slice none 0 0, .string ⟨#[]⟩, .int .i64 0, .string ⟨#[]⟩, .int .i64 0, .string ⟨#[]⟩] := by rw [← hW, ← hb0]; exact blkAlloc w _
  have hc0 : Chg (fun _ => False) w W0 := by rw [← hW]; exact (Chg.refl _ w).alloc _
  have HBW : Hid (w.heap.size ≤ b0) := Lib.hid (Nat.le_of_eq hb0)
  simp only [hW]
  simp only [hb0]
  clear hW hb0
  refine (pRead_calls W0 s).mono ?_
  rintro e w1 ⟨rfl, he⟩
  obtain ⟨rb, hrb⟩ : ∃ rb, W0.heap.size = rb := ⟨_, rfl⟩
  have hrd : RdAt w1 113 rb (s, 0) := by rw [he, ← hrb]; exact blkAlloc W0 _
  have HZ1 : Hid (DAt w1 b0 #[.int .i64 0, .int .i64 0, .int .i64 0, .slice none 0 0, .int .i64 0, .slice none 0 0, .int .i64 0, .slice none 0 0, .int .i64 0, .slice none 0 0, .int .i64 0, .slice none 0 0, .int .i64 0, .string ⟨#[]⟩, .string ⟨#[]⟩, .slice none 0 0, .string ⟨#[]⟩, .int .i64 0, .string ⟨#[]⟩, .int .i64 0, .string ⟨#[]⟩]) := Lib.hid (by rw [he]; exact blkOld hz0 _)
  have HC1 : Hid (Chg (fun _ => False) w w1) := Lib.hid (by rw [he]; exact hc0.alloc _)
  have HRW : Hid (w.heap.size ≤ rb) := Lib.hid (by rw [← hrb]; exact hc0.size)
  have HRD1 := Lib.hid hrd
  simp only [hrb]
  clear he hrb hrd hz0 hc0
  go_wp2_with fail
  refine (CK.out w1 rb HRD1.out).mono ?_
  rintro e w2 ⟨rfl, hr2, hg2⟩
  have HZ2 := Lib.hid (DAt.rd HZ1.out HRD1.out hg2)
  have HC2 := Lib.hid (HC1.out.trans hg2 (fun k e => .inr (by rw [e]; exact HRW.out)))
  have HRD2 := Lib.hid hr2
  clear hr2 hg2
  simp only []
  rename_i aK
  refine aK _ _ ?_
  refine wpList_build_is rfl 46 #[(0, .tmp 11)] rfl [(0, .int .i64 3)] (by simp [Act.eval]) #[.int .i64 3, .int .i64 0, .int .i64 0, .slice none 0 0, .int .i64 0, .slice none 0 0, .int .i64 0, .slice none 0 0, .int .i64 0, .slice none 0 0, .int .i64 0, .slice none 0 0, .int .i64 0, .string ⟨#[]⟩, .string ⟨#[]⟩, .slice none 0 0, .string ⟨#[]⟩, .int .i64 0, .string ⟨#[]⟩, .int .i64 0, .string ⟨#[]⟩] (builtK 3) ?_
  clear aK
  go_wp2_with (first
    | (show wpList _ _ _ (⟨none, _, _, _, _, _⟩ :: _) _ _; refine wpList_store_all rfl 46 (.tmp 5) (.tmp 12) rfl w2.heap.size #[.int .i64 3, .int .i64 0, .int .i64 0, .slice none 0 0, .int .i64 0, .slice none 0 0, .int .i64 0, .slice none 0 0, .int .i64 0, .slice none 0 0, .int .i64 0, .slice none 0 0, .int .i64 0, .string ⟨#[]⟩, .string ⟨#[]⟩, .slice none 0 0, .string ⟨#[]⟩, .int .i64 0, .string ⟨#[]⟩, .int .i64 0, .string ⟨#[]⟩] #[.int .i64 0, .int .i64 0, .int .i64 0, .slice none 0 0, .int .i64 0, .slice none 0 0, .int .i64 0, .slice none 0 0, .int .i64 0, .slice none 0 0, .int .i64 0, .slice none 0 0, .int .i64 0, .string ⟨#[]⟩, .string ⟨#[]⟩, .slice none 0 0, .string ⟨#[]⟩, .int .i64 0, .string ⟨#[]⟩, .int .i64 0, .string ⟨#[]⟩] 46 rfl rfl (blkAlloc w2 _) rfl docInfo (by simp [Value.oneCell']) ?_; intro W2 hd2 hcs; have HD2 := Lib.hid hd2; have HC2' := Lib.hid hcs; clear hd2 hcs))
  obtain ⟨b, hb⟩ : ∃ b, w2.heap.size = b := ⟨_, rfl⟩
  have hd2 : DAt W2 b #[.int .i64 3, .int .i64 0, .int .i64 0, .slice none 0 0, .int .i64 0, .slice none 0 0, .int .i64 0, .slice none 0 0, .int .i64 0, .slice none 0 0, .int .i64 0, .slice none 0 0, .int .i64 0, .string ⟨#[]⟩, .string ⟨#[]⟩, .slice none 0 0, .string ⟨#[]⟩, .int .i64 0, .string ⟨#[]⟩, .int .i64 0, .string ⟨#[]⟩] := by rw [← hb]; exact HD2.out
  have hcw : Chg (fun _ => False) w2 W2 := ((Chg.refl (fun _ => False) w2).alloc _).trans HC2'.out (fun k e => .inr (Nat.le_of_eq e.symm))
  have HDW : Hid (w.heap.size ≤ b) := Lib.hid (by rw [← hb]; exact HC2.out.size)
  have HNE : Hid (b0 ≠ b) := Lib.hid (by have := blkLt HZ2.out; omega)
  have HD := Lib.hid hd2
  have HZ := Lib.hid (hcw.obj HZ2.out (fun h => h))
  have HC := Lib.hid (HC2.out.trans hcw (fun _ h => h.elim))
  have HRD := Lib.hid (HRD2.out.chg hcw (fun h => h))
  simp only [hb]
  clear hb hd2 hcw HD2 HC2'
  have CR := Lib.hid (Two_calls W2 rb y1 HRD.out (by have := HS1.out; omega))
  have tk := took_num y1 2 (by omega)
  have hs1 := numF_size y1 2
  obtain ⟨v, hv⟩ : ∃ f, (numF y1 ((2 : Nat) : Int)).1 = f := ⟨_, rfl⟩
  obtain ⟨y2, hy⟩ : ∃ y, (numF y1 ((2 : Nat) : Int)).2 = y := ⟨_, rfl⟩
  have hv2 : (numF y1 2).1 = v := hv
  have hy2 : (numF y1 2).2 = y2 := hy
  rw [hv, hy] at tk
  rw [hy2] at hs1
  rw [hv2, hy2] at CR
  have TK2 := Lib.hid (TK1.out.trans tk)
  have HS2 := Lib.hid (Nat.le_trans hs1 HS1.out)
  clear tk hs1 hv hy hv2 hy2
  refine (CR.out).mono ?_
  rintro e w3 ⟨rfl, hr3, hg3⟩
  have hd3 : DAt w3 b #[.int .i64 3, .int .i64 0, .int .i64 0, .slice none 0 0, .int .i64 0, .slice none 0 0, .int .i64 0, .slice none 0 0, .int .i64 0, .slice none 0 0, .int .i64 0, .slice none 0 0, .int .i64 0, .string ⟨#[]⟩, .string ⟨#[]⟩, .slice none 0 0, .string ⟨#[]⟩, .int .i64 0, .string ⟨#[]⟩, .int .i64 0, .string ⟨#[]⟩] := DAt.rd HD.out HRD.out hg3
  have a1 : w3.cell? ⟨b, 1, none⟩ = some (.int .i64 0) := blkCell hd3 1
  have b1 := blkFree hd3 1
  have h1 := blkSet hd3 1 (.int .i64 v)
  have gc : Chg (fun k => k = b) w3 (w3.setCell ⟨b, 1, none⟩ (.int .i64 v)) := (Chg.refl (fun k => k = b) w3).cellOf 1 _
  have HD : Hid (DAt (w3.setCell ⟨b, 1, none⟩ (.int .i64 v)) b #[.int .i64 3, .int .i64 v, .int .i64 0, .slice none 0 0, .int .i64 0, .slice none 0 0, .int .i64 0, .slice none 0 0, .int .i64 0, .slice none 0 0, .int .i64 0, .slice none 0 0, .int .i64 0, .string ⟨#[]⟩, .string ⟨#[]⟩, .slice none 0 0, .string ⟨#[]⟩, .int .i64 0, .string ⟨#[]⟩, .int .i64 0, .string ⟨#[]⟩]) := Lib.hid (by simpa [DAt] using h1)
  have HZ := Lib.hid (gc.obj (DAt.rd HZ.out HRD.out hg3) HNE.out)
  have HRD := Lib.hid (RdAt.doc hd3 hr3 gc)
  have HC := Lib.hid ((HC.out.trans hg3 (fun k e => .inr (by rw [e]; exact HRW.out))).trans gc (fun k e => .inr (by rw [e]; exact HDW.out)))
  clear hr3 hg3 hd3 h1 gc
  go_wp2_with fail
  obtain ⟨W2, hW2⟩ : ∃ W, w3.setCell ⟨b, 1, none⟩ (.int .i64 v) = W := ⟨_, rfl⟩
  rw [hW2] at HD HZ HRD HC
  simp only [hW2]
  clear hW2 a1 b1
  have CR := Lib.hid (Eight_calls W2 rb y2 HRD.out (by have := HS2.out; omega))
  have tk := took_eight y2
  have hs1 : (numF (eightF y2) 8).2.1.size ≤ y2.1.size := by
    have h1 := numF_size (eightF y2) 8
    rwa [eightF_left] at h1
  obtain ⟨x, hv⟩ : ∃ f, (numF (eightF y2) 8).1 = f := ⟨_, rfl⟩
  obtain ⟨y3, hy⟩ : ∃ y, (numF (eightF y2) 8).2 = y := ⟨_, rfl⟩
  rw [hv, hy] at tk CR
  rw [hy] at hs1
  have TK3 := Lib.hid (TK2.out.trans tk.1)
  have HS3 := Lib.hid (Nat.le_trans hs1 HS2.out)
  clear tk hs1 hv hy
  refine (CR.out).mono ?_
  rintro e w3 ⟨rfl, hr3, hg3⟩
  have hd3 : DAt w3 b #[.int .i64 3, .int .i64 v, .int .i64 0, .slice none 0 0, .int .i64 0, .slice none 0 0, .int .i64 0, .slice none 0 0, .int .i64 0, .slice none 0 0, .int .i64 0, .slice none 0 0, .int .i64 0, .string ⟨#[]⟩, .string ⟨#[]⟩, .slice none 0 0, .string ⟨#[]⟩, .int .i64 0, .string ⟨#[]⟩, .int .i64 0, .string ⟨#[]⟩] := DAt.rd HD.out HRD.out hg3
  have a2 : w3.cell? ⟨b, 2, none⟩ = some (.int .i64 0) := blkCell hd3 2
  have b2 := blkFree hd3 2
  have h2 := blkSet hd3 2 (.int .i64 x)
  have gc : Chg (fun k => k = b) w3 (w3.setCell ⟨b, 2, none⟩ (.int .i64 x)) := (Chg.refl (fun k => k = b) w3).cellOf 2 _
  have HD : Hid (DAt (w3.setCell ⟨b, 2, none⟩ (.int .i64 x)) b #[.int .i64 3, .int .i64 v, .int .i64 x, .slice none 0 0, .int .i64 0, .slice none 0 0, .int .i64 0, .slice none 0 0, .int .i64 0, .slice none 0 0, .int .i64 0, .slice none 0 0, .int .i64 0, .string ⟨#[]⟩, .string ⟨#[]⟩, .slice none 0 0, .string ⟨#[]⟩, .int .i64 0, .string ⟨#[]⟩, .int .i64 0, .string ⟨#[]⟩]) := Lib.hid (by simpa [DAt] using h2)
  have HZ := Lib.hid (gc.obj (DAt.rd HZ.out HRD.out hg3) HNE.out)
  have HRD := Lib.hid (RdAt.doc hd3 hr3 gc)
  have HC := Lib.hid ((HC.out.trans hg3 (fun k e => .inr (by rw [e]; exact HRW.out))).trans gc (fun k e => .inr (by rw [e]; exact HDW.out)))
  have k0 : (w3.setCell ⟨b, 2, none⟩ (.int .i64 x)).cell? ⟨b, 0, none⟩ = some (.int .i64 3) := blkCell HD.out 0
  clear hr3 hg3 hd3 h2 gc
  go_wp2_with fail
  obtain ⟨W2, hW2⟩ : ∃ W, w3.setCell ⟨b, 2, none⟩ (.int .i64 x) = W := ⟨_, rfl⟩
  rw [hW2] at HD HZ HRD HC
  simp only [hW2]
  clear hW2 a2 b2 k0
  refine (CF.out W2).mono ?_
  rintro e w4 ⟨rfl, hc4⟩
  go_wp2_with fail
  obtain ⟨fb, hfb⟩ : ∃ f, w4.heap.size = f := ⟨_, rfl⟩
  obtain ⟨W4, hW4⟩ : ∃ W, w4.alloc (.cells #[.func (.func 81) #[] #[], .func (.func 82) #[] #[], .func (.func 83) #[] #[], .func (.func 84) #[] #[]] 89) = W := ⟨_, rfl⟩
  have hfo : W4.heap[fb]? = some (.cells #[.func (.func 81) #[] #[], .func (.func 82) #[] #[], .func (.func 83) #[] #[], .func (.func 84) #[] #[]] 89 (0, 0)) := by rw [← hW4, ← hfb]; exact blkAlloc w4 _
  have hc5 : Chg (fun _ => False) W2 W4 := by rw [← hW4]; exact hc4.alloc _
  have HD := Lib.hid (hc5.obj HD.out (fun h => h))
  have HZ := Lib.hid (hc5.obj HZ.out (fun h => h))
  have HRD := Lib.hid (HRD.out.chg hc5 (fun h => h))
  have HC := Lib.hid (HC.out.trans hc5 (fun _ h => h.elim))
  have g2 : W4.cell? ⟨fb, 2, none⟩ = some (.func (.func 83) #[] #[]) := blkCell hfo 2
  try simp only [hW4]
  try simp only [hfb]
  clear hW4 hfb hfo hc5 hc4
  go_wp2_with fail
  clear g2
  refine (takeSnapshot_calls W4 b rb 3 v x y3 HD.out HRD.out HS3.out).mono ?_
  rintro e w5 ⟨rfl, o, n, r, f, h, y4, hd4, hr4, ho4, hc4, ht4⟩
  have HO := Lib.hid ho4; clear ho4
  have HZ := Lib.hid (hc4.obj HZ.out (fun h => h.elim HNE.out (fun e => blkNe HZ.out HRD.out (by decide) e)))
  have HC := Lib.hid (HC.out.trans hc4 (fun k e => .inr (e.elim (fun e => by rw [e]; exact HDW.out) (fun e => by rw [e]; exact HRW.out))))
  have HD := Lib.hid hd4
  have HRD := Lib.hid hr4
  have HT := Lib.hid ht4
  clear hd4 hr4 hc4 ht4
  go_wp2_with fail
  refine (End_calls w5 rb y4 HRD.out).mono ?_
  rintro e w6 ⟨rfl, hr6, hg⟩
  
  have HD := Lib.hid (DAt.rd HD.out HRD.out hg)
  have HZ := Lib.hid (DAt.rd HZ.out HRD.out hg)
  have HC := Lib.hid (HC.out.trans hg (fun k e => .inr (by rw [e]; exact HRW.out)))
  obtain ⟨EE, hE⟩ : ∃ E, (endF y4).2 = E := ⟨_, rfl⟩
  have HEE := Lib.hid hE
  simp only [hE]
  clear hE hr6 hg
  by_cases he : EE = 0
  · subst he
    have CC := Lib.hid (fun w' hg (c : Chg (fun _ => False) w6 w') => check3_calls w' hg v x o n r f h HO.out)
    obtain ⟨K, hK⟩ : ∃ K, chkF v x (goodSn o n r f h) = K := ⟨_, rfl⟩
    rw [hK] at CC
    have HKK := Lib.hid hK
    clear hK
    go_wp2_with (show wpList _ _ _ (⟨some 34, _, _, _, _, _⟩ :: _) _ _; refine wpList_load_rowG (by go_simp) 46 (.tmp 5) rfl b rfl 46 #[.int .i64 3, .int .i64 v, .int .i64 x, .slice none 0 0, .int .i64 0, .slice none 0 0, .int .i64 0, .slice none 0 0, .int .i64 0, .slice none 0 0, .int .i64 0, .slice none 0 0, .int .i64 0, .string ⟨#[]⟩, .string ⟨#[]⟩, .slice none 0 0, .string o, .int .i64 n, .string r, .int .i64 f, .string h] (0, 0) _ HD.out Tryz.underlying46 rfl docInfo ?_)
    refine (CC.out w6 (HGL.out.chg HC.out) (Chg.refl _ _)).mono ?_
    rintro e w7 ⟨rfl, hg7⟩
    have HG6 := Lib.hid hg7
    have HD := Lib.hid (hg7.obj HD.out (fun h => h))
    have HZ := Lib.hid (hg7.obj HZ.out (fun h => h))
    have HC := Lib.hid (HC.out.trans hg7 (fun _ h => h.elim))
    clear hg7
    by_cases hk0 : K = 0
    · subst hk0
      go_wp2_with (first | (show wpList _ _ _ (⟨some 39, _, _, _, _, _⟩ :: _) _ _; refine wpList_load_row rfl 46 (.tmp 5) rfl b rfl 46 #[.int .i64 3, .int .i64 v, .int .i64 x, .slice none 0 0, .int .i64 0, .slice none 0 0, .int .i64 0, .slice none 0 0, .int .i64 0, .slice none 0 0, .int .i64 0, .slice none 0 0, .int .i64 0, .string ⟨#[]⟩, .string ⟨#[]⟩, .slice none 0 0, .string o, .int .i64 n, .string r, .int .i64 f, .string h] (0, 0) _ HD.out Tryz.underlying46 rfl docInfo ?_) | (show wpList _ _ _ (⟨none, _, _, _, _, _⟩ :: _) _ _; refine wpList_store_all rfl 46 (.tmp 2) (.tmp 39) rfl b0 #[.int .i64 3, .int .i64 v, .int .i64 x, .slice none 0 0, .int .i64 0, .slice none 0 0, .int .i64 0, .slice none 0 0, .int .i64 0, .slice none 0 0, .int .i64 0, .slice none 0 0, .int .i64 0, .string ⟨#[]⟩, .string ⟨#[]⟩, .slice none 0 0, .string o, .int .i64 n, .string r, .int .i64 f, .string h] #[.int .i64 0, .int .i64 0, .int .i64 0, .slice none 0 0, .int .i64 0, .slice none 0 0, .int .i64 0, .slice none 0 0, .int .i64 0, .slice none 0 0, .int .i64 0, .slice none 0 0, .int .i64 0, .string ⟨#[]⟩, .string ⟨#[]⟩, .slice none 0 0, .string ⟨#[]⟩, .int .i64 0, .string ⟨#[]⟩, .int .i64 0, .string ⟨#[]⟩] 46 rfl rfl HZ.out rfl docInfo (by simp [Value.oneCell']) ?_; intro w9 hb9 hcb9; have HBB := Lib.hid hb9; have HCB := Lib.hid hcb9; clear hb9 hcb9))
      have hb := HBB.out
      have hcb := HCB.out
      exact bodyPost_ret (v := .tuple #[.agg #[.int .i64 3, .int .i64 v, .int .i64 x, .slice none 0 0, .int .i64 0, .slice none 0 0, .int .i64 0, .slice none 0 0, .int .i64 0, .slice none 0 0, .int .i64 0, .slice none 0 0, .int .i64 0, .string ⟨#[]⟩, .string ⟨#[]⟩, .slice none 0 0, .string o, .int .i64 n, .string r, .int .i64 f, .string h], .int .i64 0]) (resDoc (by kernel_rfl) _ _ b0 #[.int .i64 3, .int .i64 v, .int .i64 x, .slice none 0 0, .int .i64 0, .slice none 0 0, .int .i64 0, .slice none 0 0, .int .i64 0, .slice none 0 0, .int .i64 0, .slice none 0 0, .int .i64 0, .string ⟨#[]⟩, .string ⟨#[]⟩, .slice none 0 0, .string o, .int .i64 n, .string r, .int .i64 f, .string h] 0 rfl rfl hb rfl) rfl (⟨3, v, x, none, 0, 0, 0, none, 0, 0, 0, none, 0, 0, 0, none, 0, 0, 0, none, 0, 0, 0, ⟨#[]⟩, ⟨#[]⟩, none, 0, 0, o, n, r, f, h, 0, rfl, HC.out.trans hcb (fun k e => .inr (by rw [e]; exact HBW.out)), .inr rfl, s, 0, fun _ => ⟨rfl, rfl⟩, fun w2 hg cc => by have hE := encode3_calls w2 hg v x o n r f h HO.out HKK.out; rw [doc_law s 3 v x (paySn o n r f h) y4 (TK3.out.trans (HT.out (end_ok y4 HEE.out).1).1) HEE.out] at hE; exact hE⟩)
    · have hk1 : (K == 0) = false := by simpa using hk0
      clear hk0
      go_wp2_with (first | (show wpList _ _ _ (⟨some 38, _, _, _, _, _⟩ :: _) _ _; refine wpList_build_is rfl 46 #[] rfl [] (by simp) #[.int .i64 0, .int .i64 0, .int .i64 0, .slice none 0 0, .int .i64 0, .slice none 0 0, .int .i64 0, .slice none 0 0, .int .i64 0, .slice none 0 0, .int .i64 0, .slice none 0 0, .int .i64 0, .string ⟨#[]⟩, .string ⟨#[]⟩, .slice none 0 0, .string ⟨#[]⟩, .int .i64 0, .string ⟨#[]⟩, .int .i64 0, .string ⟨#[]⟩] built0 ?_) | (show wpList _ _ _ (⟨none, _, _, _, _, _⟩ :: _) _ _; refine wpList_store_all rfl 46 (.tmp 2) (.tmp 38) rfl b0 #[.int .i64 0, .int .i64 0, .int .i64 0, .slice none 0 0, .int .i64 0, .slice none 0 0, .int .i64 0, .slice none 0 0, .int .i64 0, .slice none 0 0, .int .i64 0, .slice none 0 0, .int .i64 0, .string ⟨#[]⟩, .string ⟨#[]⟩, .slice none 0 0, .string ⟨#[]⟩, .int .i64 0, .string ⟨#[]⟩, .int .i64 0, .string ⟨#[]⟩] #[.int .i64 0, .int .i64 0, .int .i64 0, .slice none 0 0, .int .i64 0, .slice none 0 0, .int .i64 0, .slice none 0 0, .int .i64 0, .slice none 0 0, .int .i64 0, .slice none 0 0, .int .i64 0, .string ⟨#[]⟩, .string ⟨#[]⟩, .slice none 0 0, .string ⟨#[]⟩, .int .i64 0, .string ⟨#[]⟩, .int .i64 0, .string ⟨#[]⟩] 46 rfl rfl HZ.out rfl docInfo (by simp [Value.oneCell']) ?_; intro w9 hb9 hcb9; have HBB := Lib.hid hb9; have HCB := Lib.hid hcb9; clear hb9 hcb9))
      have hb := HBB.out
      have hcb := HCB.out
      exact bodyPost_ret (v := .tuple #[.agg #[.int .i64 0, .int .i64 0, .int .i64 0, .slice none 0 0, .int .i64 0, .slice none 0 0, .int .i64 0, .slice none 0 0, .int .i64 0, .slice none 0 0, .int .i64 0, .slice none 0 0, .int .i64 0, .string ⟨#[]⟩, .string ⟨#[]⟩, .slice none 0 0, .string ⟨#[]⟩, .int .i64 0, .string ⟨#[]⟩, .int .i64 0, .string ⟨#[]⟩], .int .i64 3]) (resDoc (by kernel_rfl) _ _ b0 #[.int .i64 0, .int .i64 0, .int .i64 0, .slice none 0 0, .int .i64 0, .slice none 0 0, .int .i64 0, .slice none 0 0, .int .i64 0, .slice none 0 0, .int .i64 0, .slice none 0 0, .int .i64 0, .string ⟨#[]⟩, .string ⟨#[]⟩, .slice none 0 0, .string ⟨#[]⟩, .int .i64 0, .string ⟨#[]⟩, .int .i64 0, .string ⟨#[]⟩] 3 rfl rfl hb rfl) rfl (DecPost.bad s (HC.out.trans hcb (fun k e => .inr (by rw [e]; exact HBW.out))))
  · have he1 : (EE == 0) = false := by simpa using he
    have he2 : (EE != 0) = true := by rw [bne, he1]; rfl
    have he3 : ¬ EE = 0 := he
    clear he
    go_wp2_with (first | (show wpList _ _ _ (⟨some 38, _, _, _, _, _⟩ :: _) _ _; refine wpList_build_is rfl 46 #[] rfl [] (by simp) #[.int .i64 0, .int .i64 0, .int .i64 0, .slice none 0 0, .int .i64 0, .slice none 0 0, .int .i64 0, .slice none 0 0, .int .i64 0, .slice none 0 0, .int .i64 0, .slice none 0 0, .int .i64 0, .string ⟨#[]⟩, .string ⟨#[]⟩, .slice none 0 0, .string ⟨#[]⟩, .int .i64 0, .string ⟨#[]⟩, .int .i64 0, .string ⟨#[]⟩] built0 ?_) | (show wpList _ _ _ (⟨none, _, _, _, _, _⟩ :: _) _ _; refine wpList_store_all rfl 46 (.tmp 2) (.tmp 38) rfl b0 #[.int .i64 0, .int .i64 0, .int .i64 0, .slice none 0 0, .int .i64 0, .slice none 0 0, .int .i64 0, .slice none 0 0, .int .i64 0, .slice none 0 0, .int .i64 0, .slice none 0 0, .int .i64 0, .string ⟨#[]⟩, .string ⟨#[]⟩, .slice none 0 0, .string ⟨#[]⟩, .int .i64 0, .string ⟨#[]⟩, .int .i64 0, .string ⟨#[]⟩] #[.int .i64 0, .int .i64 0, .int .i64 0, .slice none 0 0, .int .i64 0, .slice none 0 0, .int .i64 0, .slice none 0 0, .int .i64 0, .slice none 0 0, .int .i64 0, .slice none 0 0, .int .i64 0, .string ⟨#[]⟩, .string ⟨#[]⟩, .slice none 0 0, .string ⟨#[]⟩, .int .i64 0, .string ⟨#[]⟩, .int .i64 0, .string ⟨#[]⟩] 46 rfl rfl HZ.out rfl docInfo (by simp [Value.oneCell']) ?_; intro w9 hb9 hcb9; have HBB := Lib.hid hb9; have HCB := Lib.hid hcb9; clear hb9 hcb9))
    have hb := HBB.out
    have hcb := HCB.out
    exact bodyPost_ret (v := .tuple #[.agg #[.int .i64 0, .int .i64 0, .int .i64 0, .slice none 0 0, .int .i64 0, .slice none 0 0, .int .i64 0, .slice none 0 0, .int .i64 0, .slice none 0 0, .int .i64 0, .slice none 0 0, .int .i64 0, .string ⟨#[]⟩, .string ⟨#[]⟩, .slice none 0 0, .string ⟨#[]⟩, .int .i64 0, .string ⟨#[]⟩, .int .i64 0, .string ⟨#[]⟩], .int .i64 3]) (resDoc (by kernel_rfl) _ _ b0 #[.int .i64 0, .int .i64 0, .int .i64 0, .slice none 0 0, .int .i64 0, .slice none 0 0, .int .i64 0, .slice none 0 0, .int .i64 0, .slice none 0 0, .int .i64 0, .slice none 0 0, .int .i64 0, .string ⟨#[]⟩, .string ⟨#[]⟩, .slice none 0 0, .string ⟨#[]⟩, .int .i64 0, .string ⟨#[]⟩, .int .i64 0, .string ⟨#[]⟩] 3 rfl rfl hb rfl) rfl (DecPost.bad s (HC.out.trans hcb (fun k e => .inr (by rw [e]; exact HBW.out))))
set_option maxRecDepth 100000 in
set_option maxHeartbeats 4000000 in
theorem decode4_calls (w : World) (hgl : Glob w) (s : ByteArray) (hs : s.size ≤ 1048576) (hk : (numF (s, 0) 1).1 = 4) :
    Calls Tryz.prog 10 #[.string s] w (DecPost s w) := by
  have HGL := Lib.hid hgl
  have CF := Lib.hid (fun w' => forms4 w')
  clear hgl
  have HS := Lib.hid hs
  have tk := took_num (s, 0) 1 (by omega)
  obtain ⟨y1, hy1⟩ : ∃ y1, (numF (s, 0) ((1 : Nat) : Int)).2 = y1 := ⟨_, rfl⟩
  have hk2 : (numF (s, 0) ((1 : Nat) : Int)).1 = 4 := hk
  have hy2 : (numF (s, 0) 1).2 = y1 := hy1
  have hs1 := numF_size (s, 0) 1
  rw [hy2] at hs1
  rw [hk2, hy1] at tk
  have CK := Lib.hid (fun w rb h => Byte_calls w rb (s, 0) h (by have : s.size ≤ 1048576 := hs; show s.size ≤ _; omega))
  rw [hk, hy2] at CK
  have TK1 := Lib.hid tk
  have HS1 : Hid (y1.1.size ≤ 1048576) := Lib.hid (Nat.le_trans hs1 hs)
  clear tk hk hk2 hy1 hy2 hs1 hs
  go_enter Tryz.func10, Tryz.ntmps10
  go_wp2_with fail
  obtain ⟨b0, hb0⟩ : ∃ b, w.heap.size = b := ⟨_, rfl⟩
  obtain ⟨W0, hW⟩ : ∃ W0, w.alloc (.cells #[.int .i64 0, .int .i64 0, .int .i64 0, .slice none 0 0, .int .i64 0, .slice none 0 0, .int .i64 0, .slice none 0 0, .int .i64 0, .slice none 0 0, .int .i64 0, .slice none 0 0, .int .i64 0, .string ⟨#[]⟩, .string ⟨#[]⟩, .slice none 0 0, .string ⟨#[]⟩, .int .i64 0, .string ⟨#[]⟩, .int .i64 0, .string ⟨#[]⟩] 46) = W0 := ⟨_, rfl⟩
  have hz0 : DAt W0 b0 #[.int .i64 0, .int .i64 0, .int .i64 0, .slice none 0 0, .int .i64 0, .slice none 0 0, .int .i64 0, .slice none 0 0, .int .i64 0, .slice none 0 0, .int .i64 0, .slice none 0 0, .int .i64 0, .string ⟨#[]⟩, .string ⟨#[]⟩, .slice none 0 0, .string ⟨#[]⟩, .int .i64 0, .string ⟨#[]⟩, .int .i64 0, .string ⟨#[]⟩] := by rw [← hW, ← hb0]; exact blkAlloc w _
  have hc0 : Chg (fun _ => False) w W0 := by rw [← hW]; exact (Chg.refl _ w).alloc _
  have HBW : Hid (w.heap.size ≤ b0) := Lib.hid (Nat.le_of_eq hb0)
  simp only [hW]
  simp only [hb0]
  clear hW hb0
  refine (pRead_calls W0 s).mono ?_
  rintro e w1 ⟨rfl, he⟩
  obtain ⟨rb, hrb⟩ : ∃ rb, W0.heap.size = rb := ⟨_, rfl⟩
  have hrd : RdAt w1 113 rb (s, 0) := by rw [he, ← hrb]; exact blkAlloc W0 _
  have HZ1 : Hid (DAt w1 b0 #[.int .i64 0, .int .i64 0, .int .i64 0, .slice none 0 0, .int .i64 0, .slice none 0 0, .int .i64 0, .slice none 0 0, .int .i64 0, .slice none 0 0, .int .i64 0, .slice none 0 0, .int .i64 0, .string ⟨#[]⟩, .string ⟨#[]⟩, .slice none 0 0, .string ⟨#[]⟩, .int .i64 0, .string ⟨#[]⟩, .int .i64 0, .string ⟨#[]⟩]) := Lib.hid (by rw [he]; exact blkOld hz0 _)
  have HC1 : Hid (Chg (fun _ => False) w w1) := Lib.hid (by rw [he]; exact hc0.alloc _)
  have HRW : Hid (w.heap.size ≤ rb) := Lib.hid (by rw [← hrb]; exact hc0.size)
  have HRD1 := Lib.hid hrd
  simp only [hrb]
  clear he hrb hrd hz0 hc0
  go_wp2_with fail
  refine (CK.out w1 rb HRD1.out).mono ?_
  rintro e w2 ⟨rfl, hr2, hg2⟩
  have HZ2 := Lib.hid (DAt.rd HZ1.out HRD1.out hg2)
  have HC2 := Lib.hid (HC1.out.trans hg2 (fun k e => .inr (by rw [e]; exact HRW.out)))
  have HRD2 := Lib.hid hr2
  clear hr2 hg2
  simp only []
  rename_i aK
  refine aK _ _ ?_
  refine wpList_build_is rfl 46 #[(0, .tmp 11)] rfl [(0, .int .i64 4)] (by simp [Act.eval]) #[.int .i64 4, .int .i64 0, .int .i64 0, .slice none 0 0, .int .i64 0, .slice none 0 0, .int .i64 0, .slice none 0 0, .int .i64 0, .slice none 0 0, .int .i64 0, .slice none 0 0, .int .i64 0, .string ⟨#[]⟩, .string ⟨#[]⟩, .slice none 0 0, .string ⟨#[]⟩, .int .i64 0, .string ⟨#[]⟩, .int .i64 0, .string ⟨#[]⟩] (builtK 4) ?_
  clear aK
  go_wp2_with (first
    | (show wpList _ _ _ (⟨none, _, _, _, _, _⟩ :: _) _ _; refine wpList_store_all rfl 46 (.tmp 5) (.tmp 12) rfl w2.heap.size #[.int .i64 4, .int .i64 0, .int .i64 0, .slice none 0 0, .int .i64 0, .slice none 0 0, .int .i64 0, .slice none 0 0, .int .i64 0, .slice none 0 0, .int .i64 0, .slice none 0 0, .int .i64 0, .string ⟨#[]⟩, .string ⟨#[]⟩, .slice none 0 0, .string ⟨#[]⟩, .int .i64 0, .string ⟨#[]⟩, .int .i64 0, .string ⟨#[]⟩] #[.int .i64 0, .int .i64 0, .int .i64 0, .slice none 0 0, .int .i64 0, .slice none 0 0, .int .i64 0, .slice none 0 0, .int .i64 0, .slice none 0 0, .int .i64 0, .slice none 0 0, .int .i64 0, .string ⟨#[]⟩, .string ⟨#[]⟩, .slice none 0 0, .string ⟨#[]⟩, .int .i64 0, .string ⟨#[]⟩, .int .i64 0, .string ⟨#[]⟩] 46 rfl rfl (blkAlloc w2 _) rfl docInfo (by simp [Value.oneCell']) ?_; intro W2 hd2 hcs; have HD2 := Lib.hid hd2; have HC2' := Lib.hid hcs; clear hd2 hcs))
  obtain ⟨b, hb⟩ : ∃ b, w2.heap.size = b := ⟨_, rfl⟩
  have hd2 : DAt W2 b #[.int .i64 4, .int .i64 0, .int .i64 0, .slice none 0 0, .int .i64 0, .slice none 0 0, .int .i64 0, .slice none 0 0, .int .i64 0, .slice none 0 0, .int .i64 0, .slice none 0 0, .int .i64 0, .string ⟨#[]⟩, .string ⟨#[]⟩, .slice none 0 0, .string ⟨#[]⟩, .int .i64 0, .string ⟨#[]⟩, .int .i64 0, .string ⟨#[]⟩] := by rw [← hb]; exact HD2.out
  have hcw : Chg (fun _ => False) w2 W2 := ((Chg.refl (fun _ => False) w2).alloc _).trans HC2'.out (fun k e => .inr (Nat.le_of_eq e.symm))
  have HDW : Hid (w.heap.size ≤ b) := Lib.hid (by rw [← hb]; exact HC2.out.size)
  have HNE : Hid (b0 ≠ b) := Lib.hid (by have := blkLt HZ2.out; omega)
  have HD := Lib.hid hd2
  have HZ := Lib.hid (hcw.obj HZ2.out (fun h => h))
  have HC := Lib.hid (HC2.out.trans hcw (fun _ h => h.elim))
  have HRD := Lib.hid (HRD2.out.chg hcw (fun h => h))
  simp only [hb]
  clear hb hd2 hcw HD2 HC2'
  have CR := Lib.hid (Two_calls W2 rb y1 HRD.out (by have := HS1.out; omega))
  have tk := took_num y1 2 (by omega)
  have hs1 := numF_size y1 2
  obtain ⟨v, hv⟩ : ∃ f, (numF y1 ((2 : Nat) : Int)).1 = f := ⟨_, rfl⟩
  obtain ⟨y2, hy⟩ : ∃ y, (numF y1 ((2 : Nat) : Int)).2 = y := ⟨_, rfl⟩
  have hv2 : (numF y1 2).1 = v := hv
  have hy2 : (numF y1 2).2 = y2 := hy
  rw [hv, hy] at tk
  rw [hy2] at hs1
  rw [hv2, hy2] at CR
  have TK2 := Lib.hid (TK1.out.trans tk)
  have HS2 := Lib.hid (Nat.le_trans hs1 HS1.out)
  clear tk hs1 hv hy hv2 hy2
  refine (CR.out).mono ?_
  rintro e w3 ⟨rfl, hr3, hg3⟩
  have hd3 : DAt w3 b #[.int .i64 4, .int .i64 0, .int .i64 0, .slice none 0 0, .int .i64 0, .slice none 0 0, .int .i64 0, .slice none 0 0, .int .i64 0, .slice none 0 0, .int .i64 0, .slice none 0 0, .int .i64 0, .string ⟨#[]⟩, .string ⟨#[]⟩, .slice none 0 0, .string ⟨#[]⟩, .int .i64 0, .string ⟨#[]⟩, .int .i64 0, .string ⟨#[]⟩] := DAt.rd HD.out HRD.out hg3
  have a1 : w3.cell? ⟨b, 1, none⟩ = some (.int .i64 0) := blkCell hd3 1
  have b1 := blkFree hd3 1
  have h1 := blkSet hd3 1 (.int .i64 v)
  have gc : Chg (fun k => k = b) w3 (w3.setCell ⟨b, 1, none⟩ (.int .i64 v)) := (Chg.refl (fun k => k = b) w3).cellOf 1 _
  have HD : Hid (DAt (w3.setCell ⟨b, 1, none⟩ (.int .i64 v)) b #[.int .i64 4, .int .i64 v, .int .i64 0, .slice none 0 0, .int .i64 0, .slice none 0 0, .int .i64 0, .slice none 0 0, .int .i64 0, .slice none 0 0, .int .i64 0, .slice none 0 0, .int .i64 0, .string ⟨#[]⟩, .string ⟨#[]⟩, .slice none 0 0, .string ⟨#[]⟩, .int .i64 0, .string ⟨#[]⟩, .int .i64 0, .string ⟨#[]⟩]) := Lib.hid (by simpa [DAt] using h1)
  have HZ := Lib.hid (gc.obj (DAt.rd HZ.out HRD.out hg3) HNE.out)
  have HRD := Lib.hid (RdAt.doc hd3 hr3 gc)
  have HC := Lib.hid ((HC.out.trans hg3 (fun k e => .inr (by rw [e]; exact HRW.out))).trans gc (fun k e => .inr (by rw [e]; exact HDW.out)))
  clear hr3 hg3 hd3 h1 gc
  go_wp2_with fail
  obtain ⟨W2, hW2⟩ : ∃ W, w3.setCell ⟨b, 1, none⟩ (.int .i64 v) = W := ⟨_, rfl⟩
  rw [hW2] at HD HZ HRD HC
  simp only [hW2]
  clear hW2 a1 b1
  have CR := Lib.hid (Eight_calls W2 rb y2 HRD.out (by have := HS2.out; omega))
  have tk := took_eight y2
  have hs1 : (numF (eightF y2) 8).2.1.size ≤ y2.1.size := by
    have h1 := numF_size (eightF y2) 8
    rwa [eightF_left] at h1
  obtain ⟨x, hv⟩ : ∃ f, (numF (eightF y2) 8).1 = f := ⟨_, rfl⟩
  obtain ⟨y3, hy⟩ : ∃ y, (numF (eightF y2) 8).2 = y := ⟨_, rfl⟩
  rw [hv, hy] at tk CR
  rw [hy] at hs1
  have TK3 := Lib.hid (TK2.out.trans tk.1)
  have HS3 := Lib.hid (Nat.le_trans hs1 HS2.out)
  clear tk hs1 hv hy
  refine (CR.out).mono ?_
  rintro e w3 ⟨rfl, hr3, hg3⟩
  have hd3 : DAt w3 b #[.int .i64 4, .int .i64 v, .int .i64 0, .slice none 0 0, .int .i64 0, .slice none 0 0, .int .i64 0, .slice none 0 0, .int .i64 0, .slice none 0 0, .int .i64 0, .slice none 0 0, .int .i64 0, .string ⟨#[]⟩, .string ⟨#[]⟩, .slice none 0 0, .string ⟨#[]⟩, .int .i64 0, .string ⟨#[]⟩, .int .i64 0, .string ⟨#[]⟩] := DAt.rd HD.out HRD.out hg3
  have a2 : w3.cell? ⟨b, 2, none⟩ = some (.int .i64 0) := blkCell hd3 2
  have b2 := blkFree hd3 2
  have h2 := blkSet hd3 2 (.int .i64 x)
  have gc : Chg (fun k => k = b) w3 (w3.setCell ⟨b, 2, none⟩ (.int .i64 x)) := (Chg.refl (fun k => k = b) w3).cellOf 2 _
  have HD : Hid (DAt (w3.setCell ⟨b, 2, none⟩ (.int .i64 x)) b #[.int .i64 4, .int .i64 v, .int .i64 x, .slice none 0 0, .int .i64 0, .slice none 0 0, .int .i64 0, .slice none 0 0, .int .i64 0, .slice none 0 0, .int .i64 0, .slice none 0 0, .int .i64 0, .string ⟨#[]⟩, .string ⟨#[]⟩, .slice none 0 0, .string ⟨#[]⟩, .int .i64 0, .string ⟨#[]⟩, .int .i64 0, .string ⟨#[]⟩]) := Lib.hid (by simpa [DAt] using h2)
  have HZ := Lib.hid (gc.obj (DAt.rd HZ.out HRD.out hg3) HNE.out)
  have HRD := Lib.hid (RdAt.doc hd3 hr3 gc)
  have HC := Lib.hid ((HC.out.trans hg3 (fun k e => .inr (by rw [e]; exact HRW.out))).trans gc (fun k e => .inr (by rw [e]; exact HDW.out)))
  have k0 : (w3.setCell ⟨b, 2, none⟩ (.int .i64 x)).cell? ⟨b, 0, none⟩ = some (.int .i64 4) := blkCell HD.out 0
  clear hr3 hg3 hd3 h2 gc
  go_wp2_with fail
  obtain ⟨W2, hW2⟩ : ∃ W, w3.setCell ⟨b, 2, none⟩ (.int .i64 x) = W := ⟨_, rfl⟩
  rw [hW2] at HD HZ HRD HC
  simp only [hW2]
  clear hW2 a2 b2 k0
  refine (CF.out W2).mono ?_
  rintro e w4 ⟨rfl, hc4⟩
  go_wp2_with fail
  obtain ⟨fb, hfb⟩ : ∃ f, w4.heap.size = f := ⟨_, rfl⟩
  obtain ⟨W4, hW4⟩ : ∃ W, w4.alloc (.cells #[.func (.func 85) #[] #[], .func (.func 86) #[] #[], .func (.func 87) #[] #[], .func (.func 88) #[] #[]] 89) = W := ⟨_, rfl⟩
  have hfo : W4.heap[fb]? = some (.cells #[.func (.func 85) #[] #[], .func (.func 86) #[] #[], .func (.func 87) #[] #[], .func (.func 88) #[] #[]] 89 (0, 0)) := by rw [← hW4, ← hfb]; exact blkAlloc w4 _
  have hc5 : Chg (fun _ => False) W2 W4 := by rw [← hW4]; exact hc4.alloc _
  have HD := Lib.hid (hc5.obj HD.out (fun h => h))
  have HZ := Lib.hid (hc5.obj HZ.out (fun h => h))
  have HRD := Lib.hid (HRD.out.chg hc5 (fun h => h))
  have HC := Lib.hid (HC.out.trans hc5 (fun _ h => h.elim))
  have g2 : W4.cell? ⟨fb, 2, none⟩ = some (.func (.func 87) #[] #[]) := blkCell hfo 2
  try simp only [hW4]
  try simp only [hfb]
  clear hW4 hfb hfo hc5 hc4
  go_wp2_with fail
  clear g2
  refine (takeTimestamp_calls W4 b rb 4 v x y3 HD.out HRD.out HS3.out).mono ?_
  rintro e w5 ⟨rfl, f, h, y4, hd4, hr4, hs4, hc4, ht4⟩
  clear hs4
  have HZ := Lib.hid (hc4.obj HZ.out (fun h => h.elim HNE.out (fun e => blkNe HZ.out HRD.out (by decide) e)))
  have HC := Lib.hid (HC.out.trans hc4 (fun k e => .inr (e.elim (fun e => by rw [e]; exact HDW.out) (fun e => by rw [e]; exact HRW.out))))
  have HD := Lib.hid hd4
  have HRD := Lib.hid hr4
  have HT := Lib.hid ht4
  clear hd4 hr4 hc4 ht4
  go_wp2_with fail
  refine (End_calls w5 rb y4 HRD.out).mono ?_
  rintro e w6 ⟨rfl, hr6, hg⟩
  
  have HD := Lib.hid (DAt.rd HD.out HRD.out hg)
  have HZ := Lib.hid (DAt.rd HZ.out HRD.out hg)
  have HC := Lib.hid (HC.out.trans hg (fun k e => .inr (by rw [e]; exact HRW.out)))
  obtain ⟨EE, hE⟩ : ∃ E, (endF y4).2 = E := ⟨_, rfl⟩
  have HEE := Lib.hid hE
  simp only [hE]
  clear hE hr6 hg
  by_cases he : EE = 0
  · subst he
    have CC := Lib.hid (fun w' hg (c : Chg (fun _ => False) w6 w') => check4_calls w' hg v x f h)
    obtain ⟨K, hK⟩ : ∃ K, chkF v x (goodTs f h) = K := ⟨_, rfl⟩
    rw [hK] at CC
    have HKK := Lib.hid hK
    clear hK
    go_wp2_with (show wpList _ _ _ (⟨some 34, _, _, _, _, _⟩ :: _) _ _; refine wpList_load_rowG (by go_simp) 46 (.tmp 5) rfl b rfl 46 #[.int .i64 4, .int .i64 v, .int .i64 x, .slice none 0 0, .int .i64 0, .slice none 0 0, .int .i64 0, .slice none 0 0, .int .i64 0, .slice none 0 0, .int .i64 0, .slice none 0 0, .int .i64 0, .string ⟨#[]⟩, .string ⟨#[]⟩, .slice none 0 0, .string ⟨#[]⟩, .int .i64 0, .string ⟨#[]⟩, .int .i64 f, .string h] (0, 0) _ HD.out Tryz.underlying46 rfl docInfo ?_)
    refine (CC.out w6 (HGL.out.chg HC.out) (Chg.refl _ _)).mono ?_
    rintro e w7 ⟨rfl, hg7⟩
    have HG6 := Lib.hid hg7
    have HD := Lib.hid (hg7.obj HD.out (fun h => h))
    have HZ := Lib.hid (hg7.obj HZ.out (fun h => h))
    have HC := Lib.hid (HC.out.trans hg7 (fun _ h => h.elim))
    clear hg7
    by_cases hk0 : K = 0
    · subst hk0
      go_wp2_with (first | (show wpList _ _ _ (⟨some 39, _, _, _, _, _⟩ :: _) _ _; refine wpList_load_row rfl 46 (.tmp 5) rfl b rfl 46 #[.int .i64 4, .int .i64 v, .int .i64 x, .slice none 0 0, .int .i64 0, .slice none 0 0, .int .i64 0, .slice none 0 0, .int .i64 0, .slice none 0 0, .int .i64 0, .slice none 0 0, .int .i64 0, .string ⟨#[]⟩, .string ⟨#[]⟩, .slice none 0 0, .string ⟨#[]⟩, .int .i64 0, .string ⟨#[]⟩, .int .i64 f, .string h] (0, 0) _ HD.out Tryz.underlying46 rfl docInfo ?_) | (show wpList _ _ _ (⟨none, _, _, _, _, _⟩ :: _) _ _; refine wpList_store_all rfl 46 (.tmp 2) (.tmp 39) rfl b0 #[.int .i64 4, .int .i64 v, .int .i64 x, .slice none 0 0, .int .i64 0, .slice none 0 0, .int .i64 0, .slice none 0 0, .int .i64 0, .slice none 0 0, .int .i64 0, .slice none 0 0, .int .i64 0, .string ⟨#[]⟩, .string ⟨#[]⟩, .slice none 0 0, .string ⟨#[]⟩, .int .i64 0, .string ⟨#[]⟩, .int .i64 f, .string h] #[.int .i64 0, .int .i64 0, .int .i64 0, .slice none 0 0, .int .i64 0, .slice none 0 0, .int .i64 0, .slice none 0 0, .int .i64 0, .slice none 0 0, .int .i64 0, .slice none 0 0, .int .i64 0, .string ⟨#[]⟩, .string ⟨#[]⟩, .slice none 0 0, .string ⟨#[]⟩, .int .i64 0, .string ⟨#[]⟩, .int .i64 0, .string ⟨#[]⟩] 46 rfl rfl HZ.out rfl docInfo (by simp [Value.oneCell']) ?_; intro w9 hb9 hcb9; have HBB := Lib.hid hb9; have HCB := Lib.hid hcb9; clear hb9 hcb9))
      have hb := HBB.out
      have hcb := HCB.out
      exact bodyPost_ret (v := .tuple #[.agg #[.int .i64 4, .int .i64 v, .int .i64 x, .slice none 0 0, .int .i64 0, .slice none 0 0, .int .i64 0, .slice none 0 0, .int .i64 0, .slice none 0 0, .int .i64 0, .slice none 0 0, .int .i64 0, .string ⟨#[]⟩, .string ⟨#[]⟩, .slice none 0 0, .string ⟨#[]⟩, .int .i64 0, .string ⟨#[]⟩, .int .i64 f, .string h], .int .i64 0]) (resDoc (by kernel_rfl) _ _ b0 #[.int .i64 4, .int .i64 v, .int .i64 x, .slice none 0 0, .int .i64 0, .slice none 0 0, .int .i64 0, .slice none 0 0, .int .i64 0, .slice none 0 0, .int .i64 0, .slice none 0 0, .int .i64 0, .string ⟨#[]⟩, .string ⟨#[]⟩, .slice none 0 0, .string ⟨#[]⟩, .int .i64 0, .string ⟨#[]⟩, .int .i64 f, .string h] 0 rfl rfl hb rfl) rfl (⟨4, v, x, none, 0, 0, 0, none, 0, 0, 0, none, 0, 0, 0, none, 0, 0, 0, none, 0, 0, 0, ⟨#[]⟩, ⟨#[]⟩, none, 0, 0, ⟨#[]⟩, 0, ⟨#[]⟩, f, h, 0, rfl, HC.out.trans hcb (fun k e => .inr (by rw [e]; exact HBW.out)), .inr rfl, s, 0, fun _ => ⟨rfl, rfl⟩, fun w2 hg cc => by have hE := encode4_calls w2 hg v x f h HKK.out; rw [doc_law s 4 v x (payTs f h) y4 (TK3.out.trans (HT.out (end_ok y4 HEE.out).1).1) HEE.out] at hE; exact hE⟩)
    · have hk1 : (K == 0) = false := by simpa using hk0
      clear hk0
      go_wp2_with (first | (show wpList _ _ _ (⟨some 38, _, _, _, _, _⟩ :: _) _ _; refine wpList_build_is rfl 46 #[] rfl [] (by simp) #[.int .i64 0, .int .i64 0, .int .i64 0, .slice none 0 0, .int .i64 0, .slice none 0 0, .int .i64 0, .slice none 0 0, .int .i64 0, .slice none 0 0, .int .i64 0, .slice none 0 0, .int .i64 0, .string ⟨#[]⟩, .string ⟨#[]⟩, .slice none 0 0, .string ⟨#[]⟩, .int .i64 0, .string ⟨#[]⟩, .int .i64 0, .string ⟨#[]⟩] built0 ?_) | (show wpList _ _ _ (⟨none, _, _, _, _, _⟩ :: _) _ _; refine wpList_store_all rfl 46 (.tmp 2) (.tmp 38) rfl b0 #[.int .i64 0, .int .i64 0, .int .i64 0, .slice none 0 0, .int .i64 0, .slice none 0 0, .int .i64 0, .slice none 0 0, .int .i64 0, .slice none 0 0, .int .i64 0, .slice none 0 0, .int .i64 0, .string ⟨#[]⟩, .string ⟨#[]⟩, .slice none 0 0, .string ⟨#[]⟩, .int .i64 0, .string ⟨#[]⟩, .int .i64 0, .string ⟨#[]⟩] #[.int .i64 0, .int .i64 0, .int .i64 0, .slice none 0 0, .int .i64 0, .slice none 0 0, .int .i64 0, .slice none 0 0, .int .i64 0, .slice none 0 0, .int .i64 0, .slice none 0 0, .int .i64 0, .string ⟨#[]⟩, .string ⟨#[]⟩, .slice none 0 0, .string ⟨#[]⟩, .int .i64 0, .string ⟨#[]⟩, .int .i64 0, .string ⟨#[]⟩] 46 rfl rfl HZ.out rfl docInfo (by simp [Value.oneCell']) ?_; intro w9 hb9 hcb9; have HBB := Lib.hid hb9; have HCB := Lib.hid hcb9; clear hb9 hcb9))
      have hb := HBB.out
      have hcb := HCB.out
      exact bodyPost_ret (v := .tuple #[.agg #[.int .i64 0, .int .i64 0, .int .i64 0, .slice none 0 0, .int .i64 0, .slice none 0 0, .int .i64 0, .slice none 0 0, .int .i64 0, .slice none 0 0, .int .i64 0, .slice none 0 0, .int .i64 0, .string ⟨#[]⟩, .string ⟨#[]⟩, .slice none 0 0, .string ⟨#[]⟩, .int .i64 0, .string ⟨#[]⟩, .int .i64 0, .string ⟨#[]⟩], .int .i64 3]) (resDoc (by kernel_rfl) _ _ b0 #[.int .i64 0, .int .i64 0, .int .i64 0, .slice none 0 0, .int .i64 0, .slice none 0 0, .int .i64 0, .slice none 0 0, .int .i64 0, .slice none 0 0, .int .i64 0, .slice none 0 0, .int .i64 0, .string ⟨#[]⟩, .string ⟨#[]⟩, .slice none 0 0, .string ⟨#[]⟩, .int .i64 0, .string ⟨#[]⟩, .int .i64 0, .string ⟨#[]⟩] 3 rfl rfl hb rfl) rfl (DecPost.bad s (HC.out.trans hcb (fun k e => .inr (by rw [e]; exact HBW.out))))
  · have he1 : (EE == 0) = false := by simpa using he
    have he2 : (EE != 0) = true := by rw [bne, he1]; rfl
    have he3 : ¬ EE = 0 := he
    clear he
    go_wp2_with (first | (show wpList _ _ _ (⟨some 38, _, _, _, _, _⟩ :: _) _ _; refine wpList_build_is rfl 46 #[] rfl [] (by simp) #[.int .i64 0, .int .i64 0, .int .i64 0, .slice none 0 0, .int .i64 0, .slice none 0 0, .int .i64 0, .slice none 0 0, .int .i64 0, .slice none 0 0, .int .i64 0, .slice none 0 0, .int .i64 0, .string ⟨#[]⟩, .string ⟨#[]⟩, .slice none 0 0, .string ⟨#[]⟩, .int .i64 0, .string ⟨#[]⟩, .int .i64 0, .string ⟨#[]⟩] built0 ?_) | (show wpList _ _ _ (⟨none, _, _, _, _, _⟩ :: _) _ _; refine wpList_store_all rfl 46 (.tmp 2) (.tmp 38) rfl b0 #[.int .i64 0, .int .i64 0, .int .i64 0, .slice none 0 0, .int .i64 0, .slice none 0 0, .int .i64 0, .slice none 0 0, .int .i64 0, .slice none 0 0, .int .i64 0, .slice none 0 0, .int .i64 0, .string ⟨#[]⟩, .string ⟨#[]⟩, .slice none 0 0, .string ⟨#[]⟩, .int .i64 0, .string ⟨#[]⟩, .int .i64 0, .string ⟨#[]⟩] #[.int .i64 0, .int .i64 0, .int .i64 0, .slice none 0 0, .int .i64 0, .slice none 0 0, .int .i64 0, .slice none 0 0, .int .i64 0, .slice none 0 0, .int .i64 0, .slice none 0 0, .int .i64 0, .string ⟨#[]⟩, .string ⟨#[]⟩, .slice none 0 0, .string ⟨#[]⟩, .int .i64 0, .string ⟨#[]⟩, .int .i64 0, .string ⟨#[]⟩] 46 rfl rfl HZ.out rfl docInfo (by simp [Value.oneCell']) ?_; intro w9 hb9 hcb9; have HBB := Lib.hid hb9; have HCB := Lib.hid hcb9; clear hb9 hcb9))
    have hb := HBB.out
    have hcb := HCB.out
    exact bodyPost_ret (v := .tuple #[.agg #[.int .i64 0, .int .i64 0, .int .i64 0, .slice none 0 0, .int .i64 0, .slice none 0 0, .int .i64 0, .slice none 0 0, .int .i64 0, .slice none 0 0, .int .i64 0, .slice none 0 0, .int .i64 0, .string ⟨#[]⟩, .string ⟨#[]⟩, .slice none 0 0, .string ⟨#[]⟩, .int .i64 0, .string ⟨#[]⟩, .int .i64 0, .string ⟨#[]⟩], .int .i64 3]) (resDoc (by kernel_rfl) _ _ b0 #[.int .i64 0, .int .i64 0, .int .i64 0, .slice none 0 0, .int .i64 0, .slice none 0 0, .int .i64 0, .slice none 0 0, .int .i64 0, .slice none 0 0, .int .i64 0, .slice none 0 0, .int .i64 0, .string ⟨#[]⟩, .string ⟨#[]⟩, .slice none 0 0, .string ⟨#[]⟩, .int .i64 0, .string ⟨#[]⟩, .int .i64 0, .string ⟨#[]⟩] 3 rfl rfl hb rfl) rfl (DecPost.bad s (HC.out.trans hcb (fun k e => .inr (by rw [e]; exact HBW.out))))
set_option maxRecDepth 100000 in
set_option maxHeartbeats 4000000 in
theorem decode0_calls (w : World) (s : ByteArray) (k : Int) (hs : s.size ≤ 1048576) (hk : (numF (s, 0) 1).1 = k) (h1 : (k == 1) = false) (h2 : (k == 2) = false) (h3 : (k == 3) = false) (h4 : (k == 4) = false) :
    Calls Tryz.prog 10 #[.string s] w (DecPost s w) := by
  have CF := Lib.hid (fun w' => forms0 w' k h1 h2 h3 h4)
  have CX := Lib.hid (fun w' v x => check0_calls w' k v x h1 h2 h3 h4)
  clear h1 h2 h3 h4
  have HS := Lib.hid hs
  have tk := took_num (s, 0) 1 (by omega)
  obtain ⟨y1, hy1⟩ : ∃ y1, (numF (s, 0) ((1 : Nat) : Int)).2 = y1 := ⟨_, rfl⟩
  have hk2 : (numF (s, 0) ((1 : Nat) : Int)).1 = k := hk
  have hy2 : (numF (s, 0) 1).2 = y1 := hy1
  have hs1 := numF_size (s, 0) 1
  rw [hy2] at hs1
  rw [hk2, hy1] at tk
  have CK := Lib.hid (fun w rb h => Byte_calls w rb (s, 0) h (by have : s.size ≤ 1048576 := hs; show s.size ≤ _; omega))
  rw [hk, hy2] at CK
  have TK1 := Lib.hid tk
  have HS1 : Hid (y1.1.size ≤ 1048576) := Lib.hid (Nat.le_trans hs1 hs)
  clear tk hk hk2 hy1 hy2 hs1 hs
  go_enter Tryz.func10, Tryz.ntmps10
  go_wp2_with fail
  obtain ⟨b0, hb0⟩ : ∃ b, w.heap.size = b := ⟨_, rfl⟩
  obtain ⟨W0, hW⟩ : ∃ W0, w.alloc (.cells #[.int .i64 0, .int .i64 0, .int .i64 0, .slice none 0 0, .int .i64 0, .slice none 0 0, .int .i64 0, .slice none 0 0, .int .i64 0, .slice none 0 0, .int .i64 0, .slice none 0 0, .int .i64 0, .string ⟨#[]⟩, .string ⟨#[]⟩, .slice none 0 0, .string ⟨#[]⟩, .int .i64 0, .string ⟨#[]⟩, .int .i64 0, .string ⟨#[]⟩] 46) = W0 := ⟨_, rfl⟩
  have hz0 : DAt W0 b0 #[.int .i64 0, .int .i64 0, .int .i64 0, .slice none 0 0, .int .i64 0, .slice none 0 0, .int .i64 0, .slice none 0 0, .int .i64 0, .slice none 0 0, .int .i64 0, .slice none 0 0, .int .i64 0, .string ⟨#[]⟩, .string ⟨#[]⟩, .slice none 0 0, .string ⟨#[]⟩, .int .i64 0, .string ⟨#[]⟩, .int .i64 0, .string ⟨#[]⟩] := by rw [← hW, ← hb0]; exact blkAlloc w _
  have hc0 : Chg (fun _ => False) w W0 := by rw [← hW]; exact (Chg.refl _ w).alloc _
  have HBW : Hid (w.heap.size ≤ b0) := Lib.hid (Nat.le_of_eq hb0)
  simp only [hW]
  simp only [hb0]
  clear hW hb0
  refine (pRead_calls W0 s).mono ?_
  rintro e w1 ⟨rfl, he⟩
  obtain ⟨rb, hrb⟩ : ∃ rb, W0.heap.size = rb := ⟨_, rfl⟩
  have hrd : RdAt w1 113 rb (s, 0) := by rw [he, ← hrb]; exact blkAlloc W0 _
  have HZ1 : Hid (DAt w1 b0 #[.int .i64 0, .int .i64 0, .int .i64 0, .slice none 0 0, .int .i64 0, .slice none 0 0, .int .i64 0, .slice none 0 0, .int .i64 0, .slice none 0 0, .int .i64 0, .slice none 0 0, .int .i64 0, .string ⟨#[]⟩, .string ⟨#[]⟩, .slice none 0 0, .string ⟨#[]⟩, .int .i64 0, .string ⟨#[]⟩, .int .i64 0, .string ⟨#[]⟩]) := Lib.hid (by rw [he]; exact blkOld hz0 _)
  have HC1 : Hid (Chg (fun _ => False) w w1) := Lib.hid (by rw [he]; exact hc0.alloc _)
  have HRW : Hid (w.heap.size ≤ rb) := Lib.hid (by rw [← hrb]; exact hc0.size)
  have HRD1 := Lib.hid hrd
  simp only [hrb]
  clear he hrb hrd hz0 hc0
  go_wp2_with fail
  refine (CK.out w1 rb HRD1.out).mono ?_
  rintro e w2 ⟨rfl, hr2, hg2⟩
  have HZ2 := Lib.hid (DAt.rd HZ1.out HRD1.out hg2)
  have HC2 := Lib.hid (HC1.out.trans hg2 (fun k e => .inr (by rw [e]; exact HRW.out)))
  have HRD2 := Lib.hid hr2
  clear hr2 hg2
  simp only []
  rename_i aK
  refine aK _ _ ?_
  refine wpList_build_is rfl 46 #[(0, .tmp 11)] rfl [(0, .int .i64 k)] (by simp [Act.eval]) #[.int .i64 k, .int .i64 0, .int .i64 0, .slice none 0 0, .int .i64 0, .slice none 0 0, .int .i64 0, .slice none 0 0, .int .i64 0, .slice none 0 0, .int .i64 0, .slice none 0 0, .int .i64 0, .string ⟨#[]⟩, .string ⟨#[]⟩, .slice none 0 0, .string ⟨#[]⟩, .int .i64 0, .string ⟨#[]⟩, .int .i64 0, .string ⟨#[]⟩] (builtK k) ?_
  clear aK
  go_wp2_with (first
    | (show wpList _ _ _ (⟨none, _, _, _, _, _⟩ :: _) _ _; refine wpList_store_all rfl 46 (.tmp 5) (.tmp 12) rfl w2.heap.size #[.int .i64 k, .int .i64 0, .int .i64 0, .slice none 0 0, .int .i64 0, .slice none 0 0, .int .i64 0, .slice none 0 0, .int .i64 0, .slice none 0 0, .int .i64 0, .slice none 0 0, .int .i64 0, .string ⟨#[]⟩, .string ⟨#[]⟩, .slice none 0 0, .string ⟨#[]⟩, .int .i64 0, .string ⟨#[]⟩, .int .i64 0, .string ⟨#[]⟩] #[.int .i64 0, .int .i64 0, .int .i64 0, .slice none 0 0, .int .i64 0, .slice none 0 0, .int .i64 0, .slice none 0 0, .int .i64 0, .slice none 0 0, .int .i64 0, .slice none 0 0, .int .i64 0, .string ⟨#[]⟩, .string ⟨#[]⟩, .slice none 0 0, .string ⟨#[]⟩, .int .i64 0, .string ⟨#[]⟩, .int .i64 0, .string ⟨#[]⟩] 46 rfl rfl (blkAlloc w2 _) rfl docInfo (by simp [Value.oneCell']) ?_; intro W2 hd2 hcs; have HD2 := Lib.hid hd2; have HC2' := Lib.hid hcs; clear hd2 hcs))
  obtain ⟨b, hb⟩ : ∃ b, w2.heap.size = b := ⟨_, rfl⟩
  have hd2 : DAt W2 b #[.int .i64 k, .int .i64 0, .int .i64 0, .slice none 0 0, .int .i64 0, .slice none 0 0, .int .i64 0, .slice none 0 0, .int .i64 0, .slice none 0 0, .int .i64 0, .slice none 0 0, .int .i64 0, .string ⟨#[]⟩, .string ⟨#[]⟩, .slice none 0 0, .string ⟨#[]⟩, .int .i64 0, .string ⟨#[]⟩, .int .i64 0, .string ⟨#[]⟩] := by rw [← hb]; exact HD2.out
  have hcw : Chg (fun _ => False) w2 W2 := ((Chg.refl (fun _ => False) w2).alloc _).trans HC2'.out (fun k e => .inr (Nat.le_of_eq e.symm))
  have HDW : Hid (w.heap.size ≤ b) := Lib.hid (by rw [← hb]; exact HC2.out.size)
  have HNE : Hid (b0 ≠ b) := Lib.hid (by have := blkLt HZ2.out; omega)
  have HD := Lib.hid hd2
  have HZ := Lib.hid (hcw.obj HZ2.out (fun h => h))
  have HC := Lib.hid (HC2.out.trans hcw (fun _ h => h.elim))
  have HRD := Lib.hid (HRD2.out.chg hcw (fun h => h))
  simp only [hb]
  clear hb hd2 hcw HD2 HC2'
  have CR := Lib.hid (Two_calls W2 rb y1 HRD.out (by have := HS1.out; omega))
  have tk := took_num y1 2 (by omega)
  have hs1 := numF_size y1 2
  obtain ⟨v, hv⟩ : ∃ f, (numF y1 ((2 : Nat) : Int)).1 = f := ⟨_, rfl⟩
  obtain ⟨y2, hy⟩ : ∃ y, (numF y1 ((2 : Nat) : Int)).2 = y := ⟨_, rfl⟩
  have hv2 : (numF y1 2).1 = v := hv
  have hy2 : (numF y1 2).2 = y2 := hy
  rw [hv, hy] at tk
  rw [hy2] at hs1
  rw [hv2, hy2] at CR
  have TK2 := Lib.hid (TK1.out.trans tk)
  have HS2 := Lib.hid (Nat.le_trans hs1 HS1.out)
  clear tk hs1 hv hy hv2 hy2
  refine (CR.out).mono ?_
  rintro e w3 ⟨rfl, hr3, hg3⟩
  have hd3 : DAt w3 b #[.int .i64 k, .int .i64 0, .int .i64 0, .slice none 0 0, .int .i64 0, .slice none 0 0, .int .i64 0, .slice none 0 0, .int .i64 0, .slice none 0 0, .int .i64 0, .slice none 0 0, .int .i64 0, .string ⟨#[]⟩, .string ⟨#[]⟩, .slice none 0 0, .string ⟨#[]⟩, .int .i64 0, .string ⟨#[]⟩, .int .i64 0, .string ⟨#[]⟩] := DAt.rd HD.out HRD.out hg3
  have a1 : w3.cell? ⟨b, 1, none⟩ = some (.int .i64 0) := blkCell hd3 1
  have b1 := blkFree hd3 1
  have h1 := blkSet hd3 1 (.int .i64 v)
  have gc : Chg (fun k => k = b) w3 (w3.setCell ⟨b, 1, none⟩ (.int .i64 v)) := (Chg.refl (fun k => k = b) w3).cellOf 1 _
  have HD : Hid (DAt (w3.setCell ⟨b, 1, none⟩ (.int .i64 v)) b #[.int .i64 k, .int .i64 v, .int .i64 0, .slice none 0 0, .int .i64 0, .slice none 0 0, .int .i64 0, .slice none 0 0, .int .i64 0, .slice none 0 0, .int .i64 0, .slice none 0 0, .int .i64 0, .string ⟨#[]⟩, .string ⟨#[]⟩, .slice none 0 0, .string ⟨#[]⟩, .int .i64 0, .string ⟨#[]⟩, .int .i64 0, .string ⟨#[]⟩]) := Lib.hid (by simpa [DAt] using h1)
  have HZ := Lib.hid (gc.obj (DAt.rd HZ.out HRD.out hg3) HNE.out)
  have HRD := Lib.hid (RdAt.doc hd3 hr3 gc)
  have HC := Lib.hid ((HC.out.trans hg3 (fun k e => .inr (by rw [e]; exact HRW.out))).trans gc (fun k e => .inr (by rw [e]; exact HDW.out)))
  clear hr3 hg3 hd3 h1 gc
  go_wp2_with fail
  obtain ⟨W2, hW2⟩ : ∃ W, w3.setCell ⟨b, 1, none⟩ (.int .i64 v) = W := ⟨_, rfl⟩
  rw [hW2] at HD HZ HRD HC
  simp only [hW2]
  clear hW2 a1 b1
  have CR := Lib.hid (Eight_calls W2 rb y2 HRD.out (by have := HS2.out; omega))
  have tk := took_eight y2
  have hs1 : (numF (eightF y2) 8).2.1.size ≤ y2.1.size := by
    have h1 := numF_size (eightF y2) 8
    rwa [eightF_left] at h1
  obtain ⟨x, hv⟩ : ∃ f, (numF (eightF y2) 8).1 = f := ⟨_, rfl⟩
  obtain ⟨y3, hy⟩ : ∃ y, (numF (eightF y2) 8).2 = y := ⟨_, rfl⟩
  rw [hv, hy] at tk CR
  rw [hy] at hs1
  have TK3 := Lib.hid (TK2.out.trans tk.1)
  have HS3 := Lib.hid (Nat.le_trans hs1 HS2.out)
  clear tk hs1 hv hy
  refine (CR.out).mono ?_
  rintro e w3 ⟨rfl, hr3, hg3⟩
  have hd3 : DAt w3 b #[.int .i64 k, .int .i64 v, .int .i64 0, .slice none 0 0, .int .i64 0, .slice none 0 0, .int .i64 0, .slice none 0 0, .int .i64 0, .slice none 0 0, .int .i64 0, .slice none 0 0, .int .i64 0, .string ⟨#[]⟩, .string ⟨#[]⟩, .slice none 0 0, .string ⟨#[]⟩, .int .i64 0, .string ⟨#[]⟩, .int .i64 0, .string ⟨#[]⟩] := DAt.rd HD.out HRD.out hg3
  have a2 : w3.cell? ⟨b, 2, none⟩ = some (.int .i64 0) := blkCell hd3 2
  have b2 := blkFree hd3 2
  have h2 := blkSet hd3 2 (.int .i64 x)
  have gc : Chg (fun k => k = b) w3 (w3.setCell ⟨b, 2, none⟩ (.int .i64 x)) := (Chg.refl (fun k => k = b) w3).cellOf 2 _
  have HD : Hid (DAt (w3.setCell ⟨b, 2, none⟩ (.int .i64 x)) b #[.int .i64 k, .int .i64 v, .int .i64 x, .slice none 0 0, .int .i64 0, .slice none 0 0, .int .i64 0, .slice none 0 0, .int .i64 0, .slice none 0 0, .int .i64 0, .slice none 0 0, .int .i64 0, .string ⟨#[]⟩, .string ⟨#[]⟩, .slice none 0 0, .string ⟨#[]⟩, .int .i64 0, .string ⟨#[]⟩, .int .i64 0, .string ⟨#[]⟩]) := Lib.hid (by simpa [DAt] using h2)
  have HZ := Lib.hid (gc.obj (DAt.rd HZ.out HRD.out hg3) HNE.out)
  have HRD := Lib.hid (RdAt.doc hd3 hr3 gc)
  have HC := Lib.hid ((HC.out.trans hg3 (fun k e => .inr (by rw [e]; exact HRW.out))).trans gc (fun k e => .inr (by rw [e]; exact HDW.out)))
  have k0 : (w3.setCell ⟨b, 2, none⟩ (.int .i64 x)).cell? ⟨b, 0, none⟩ = some (.int .i64 k) := blkCell HD.out 0
  clear hr3 hg3 hd3 h2 gc
  go_wp2_with fail
  obtain ⟨W2, hW2⟩ : ∃ W, w3.setCell ⟨b, 2, none⟩ (.int .i64 x) = W := ⟨_, rfl⟩
  rw [hW2] at HD HZ HRD HC
  simp only [hW2]
  clear hW2 a2 b2 k0
  refine (CF.out W2).mono ?_
  rintro e w4 ⟨rfl, hc4⟩
  have HD := Lib.hid (hc4.obj HD.out (fun h => h))
  have HZ := Lib.hid (hc4.obj HZ.out (fun h => h))
  have HRD := Lib.hid (HRD.out.chg hc4 (fun h => h))
  have HC := Lib.hid (HC.out.trans hc4 (fun _ h => h.elim))
  clear hc4
  go_wp2_with fail
  obtain ⟨W4, hW4⟩ : ∃ W, w4.alloc (.cells #[.nilFunc, .nilFunc, .nilFunc, .nilFunc] 89) = W := ⟨_, rfl⟩
  have hc5 : Chg (fun _ => False) w4 W4 := by rw [← hW4]; exact (Chg.refl _ w4).alloc _
  have HD := Lib.hid (hc5.obj HD.out (fun h => h))
  have HZ := Lib.hid (hc5.obj HZ.out (fun h => h))
  have HRD := Lib.hid (HRD.out.chg hc5 (fun h => h))
  have HC := Lib.hid (HC.out.trans hc5 (fun _ h => h.elim))
  simp only [hW4]
  clear hW4 hc5
  refine (End_calls W4 rb y3 HRD.out).mono ?_
  rintro e w6 ⟨rfl, hr6, hg⟩
  have HD := Lib.hid (DAt.rd HD.out HRD.out hg)
  have HZ := Lib.hid (DAt.rd HZ.out HRD.out hg)
  have HC := Lib.hid (HC.out.trans hg (fun k e => .inr (by rw [e]; exact HRW.out)))
  obtain ⟨EE, hE⟩ : ∃ E, (endF y3).2 = E := ⟨_, rfl⟩
  simp only [hE]
  clear hE hr6 hg
  by_cases he : EE = 0
  · subst he
    go_wp2_with (show wpList _ _ _ (⟨some 34, _, _, _, _, _⟩ :: _) _ _; refine wpList_load_rowG (by go_simp) 46 (.tmp 5) rfl b rfl 46 #[.int .i64 k, .int .i64 v, .int .i64 x, .slice none 0 0, .int .i64 0, .slice none 0 0, .int .i64 0, .slice none 0 0, .int .i64 0, .slice none 0 0, .int .i64 0, .slice none 0 0, .int .i64 0, .string ⟨#[]⟩, .string ⟨#[]⟩, .slice none 0 0, .string ⟨#[]⟩, .int .i64 0, .string ⟨#[]⟩, .int .i64 0, .string ⟨#[]⟩] (0, 0) _ HD.out Tryz.underlying46 rfl docInfo ?_)
    refine (CX.out w6 v x).mono ?_
    rintro e w7 ⟨rfl, hg7⟩
    have HZ := Lib.hid (hg7.obj HZ.out (fun h => h))
    have HC := Lib.hid (HC.out.trans hg7 (fun _ h => h.elim))
    clear hg7
    go_wp2_with (first | (show wpList _ _ _ (⟨some 38, _, _, _, _, _⟩ :: _) _ _; refine wpList_build_is rfl 46 #[] rfl [] (by simp) #[.int .i64 0, .int .i64 0, .int .i64 0, .slice none 0 0, .int .i64 0, .slice none 0 0, .int .i64 0, .slice none 0 0, .int .i64 0, .slice none 0 0, .int .i64 0, .slice none 0 0, .int .i64 0, .string ⟨#[]⟩, .string ⟨#[]⟩, .slice none 0 0, .string ⟨#[]⟩, .int .i64 0, .string ⟨#[]⟩, .int .i64 0, .string ⟨#[]⟩] built0 ?_) | (show wpList _ _ _ (⟨none, _, _, _, _, _⟩ :: _) _ _; refine wpList_store_all rfl 46 (.tmp 2) (.tmp 38) rfl b0 #[.int .i64 0, .int .i64 0, .int .i64 0, .slice none 0 0, .int .i64 0, .slice none 0 0, .int .i64 0, .slice none 0 0, .int .i64 0, .slice none 0 0, .int .i64 0, .slice none 0 0, .int .i64 0, .string ⟨#[]⟩, .string ⟨#[]⟩, .slice none 0 0, .string ⟨#[]⟩, .int .i64 0, .string ⟨#[]⟩, .int .i64 0, .string ⟨#[]⟩] #[.int .i64 0, .int .i64 0, .int .i64 0, .slice none 0 0, .int .i64 0, .slice none 0 0, .int .i64 0, .slice none 0 0, .int .i64 0, .slice none 0 0, .int .i64 0, .slice none 0 0, .int .i64 0, .string ⟨#[]⟩, .string ⟨#[]⟩, .slice none 0 0, .string ⟨#[]⟩, .int .i64 0, .string ⟨#[]⟩, .int .i64 0, .string ⟨#[]⟩] 46 rfl rfl HZ.out rfl docInfo (by simp [Value.oneCell']) ?_; intro w9 hb9 hcb9; have HBB := Lib.hid hb9; have HCB := Lib.hid hcb9; clear hb9 hcb9))
    have hb := HBB.out
    have hcb := HCB.out
    exact bodyPost_ret (v := .tuple #[.agg #[.int .i64 0, .int .i64 0, .int .i64 0, .slice none 0 0, .int .i64 0, .slice none 0 0, .int .i64 0, .slice none 0 0, .int .i64 0, .slice none 0 0, .int .i64 0, .slice none 0 0, .int .i64 0, .string ⟨#[]⟩, .string ⟨#[]⟩, .slice none 0 0, .string ⟨#[]⟩, .int .i64 0, .string ⟨#[]⟩, .int .i64 0, .string ⟨#[]⟩], .int .i64 3]) (resDoc (by kernel_rfl) _ _ b0 #[.int .i64 0, .int .i64 0, .int .i64 0, .slice none 0 0, .int .i64 0, .slice none 0 0, .int .i64 0, .slice none 0 0, .int .i64 0, .slice none 0 0, .int .i64 0, .slice none 0 0, .int .i64 0, .string ⟨#[]⟩, .string ⟨#[]⟩, .slice none 0 0, .string ⟨#[]⟩, .int .i64 0, .string ⟨#[]⟩, .int .i64 0, .string ⟨#[]⟩] 3 rfl rfl hb rfl) rfl (DecPost.bad s (HC.out.trans hcb (fun k e => .inr (by rw [e]; exact HBW.out))))
  · have he1 : (EE == 0) = false := by simpa using he
    have he2 : (EE != 0) = true := by rw [bne, he1]; rfl
    have he3 : ¬ EE = 0 := he
    clear he
    go_wp2_with (first | (show wpList _ _ _ (⟨some 38, _, _, _, _, _⟩ :: _) _ _; refine wpList_build_is rfl 46 #[] rfl [] (by simp) #[.int .i64 0, .int .i64 0, .int .i64 0, .slice none 0 0, .int .i64 0, .slice none 0 0, .int .i64 0, .slice none 0 0, .int .i64 0, .slice none 0 0, .int .i64 0, .slice none 0 0, .int .i64 0, .string ⟨#[]⟩, .string ⟨#[]⟩, .slice none 0 0, .string ⟨#[]⟩, .int .i64 0, .string ⟨#[]⟩, .int .i64 0, .string ⟨#[]⟩] built0 ?_) | (show wpList _ _ _ (⟨none, _, _, _, _, _⟩ :: _) _ _; refine wpList_store_all rfl 46 (.tmp 2) (.tmp 38) rfl b0 #[.int .i64 0, .int .i64 0, .int .i64 0, .slice none 0 0, .int .i64 0, .slice none 0 0, .int .i64 0, .slice none 0 0, .int .i64 0, .slice none 0 0, .int .i64 0, .slice none 0 0, .int .i64 0, .string ⟨#[]⟩, .string ⟨#[]⟩, .slice none 0 0, .string ⟨#[]⟩, .int .i64 0, .string ⟨#[]⟩, .int .i64 0, .string ⟨#[]⟩] #[.int .i64 0, .int .i64 0, .int .i64 0, .slice none 0 0, .int .i64 0, .slice none 0 0, .int .i64 0, .slice none 0 0, .int .i64 0, .slice none 0 0, .int .i64 0, .slice none 0 0, .int .i64 0, .string ⟨#[]⟩, .string ⟨#[]⟩, .slice none 0 0, .string ⟨#[]⟩, .int .i64 0, .string ⟨#[]⟩, .int .i64 0, .string ⟨#[]⟩] 46 rfl rfl HZ.out rfl docInfo (by simp [Value.oneCell']) ?_; intro w9 hb9 hcb9; have HBB := Lib.hid hb9; have HCB := Lib.hid hcb9; clear hb9 hcb9))
    have hb := HBB.out
    have hcb := HCB.out
    exact bodyPost_ret (v := .tuple #[.agg #[.int .i64 0, .int .i64 0, .int .i64 0, .slice none 0 0, .int .i64 0, .slice none 0 0, .int .i64 0, .slice none 0 0, .int .i64 0, .slice none 0 0, .int .i64 0, .slice none 0 0, .int .i64 0, .string ⟨#[]⟩, .string ⟨#[]⟩, .slice none 0 0, .string ⟨#[]⟩, .int .i64 0, .string ⟨#[]⟩, .int .i64 0, .string ⟨#[]⟩], .int .i64 3]) (resDoc (by kernel_rfl) _ _ b0 #[.int .i64 0, .int .i64 0, .int .i64 0, .slice none 0 0, .int .i64 0, .slice none 0 0, .int .i64 0, .slice none 0 0, .int .i64 0, .slice none 0 0, .int .i64 0, .slice none 0 0, .int .i64 0, .string ⟨#[]⟩, .string ⟨#[]⟩, .slice none 0 0, .string ⟨#[]⟩, .int .i64 0, .string ⟨#[]⟩, .int .i64 0, .string ⟨#[]⟩] 3 rfl rfl hb rfl) rfl (DecPost.bad s (HC.out.trans hcb (fun k e => .inr (by rw [e]; exact HBW.out))))
theorem decode_calls (w : World) (hgl : Glob w) (s : ByteArray) (hs : s.size ≤ 1048576) :
    Calls Tryz.prog 10 #[.string s] w (DecPost s w) := by
  obtain ⟨k, hk⟩ : ∃ k, (numF (s, 0) 1).1 = k := ⟨_, rfl⟩
  by_cases h1 : k = 1
  · exact decode1_calls w hgl s hs (hk.trans h1)
  by_cases h2 : k = 2
  · exact decode2_calls w hgl s hs (hk.trans h2)
  by_cases h3 : k = 3
  · exact decode3_calls w hgl s hs (hk.trans h3)
  by_cases h4 : k = 4
  · exact decode4_calls w hgl s hs (hk.trans h4)
  exact decode0_calls w s k hs hk (by simpa using h1) (by simpa using h2) (by simpa using h3) (by simpa using h4)
end Go.Proofs.YtmbipabiagdaaaaGreatDoor

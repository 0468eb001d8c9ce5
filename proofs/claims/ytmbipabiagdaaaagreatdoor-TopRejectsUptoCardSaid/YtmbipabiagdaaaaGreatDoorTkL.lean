/- TopRejects: meta.Encode, kind by kind. -/
import Derived.Test.YtmbipabiagdaaaaGreatDoorTkK
namespace Go.Proofs.YtmbipabiagdaaaaGreatDoor
open Go.RowKit Go.Lib Go.Shelf
theorem textE_ok {o : ByteArray} {n : Int} {r : ByteArray} (h : textE o n r = 0) : o.size ≤ 64 ∧ 0 ≤ n ∧ n ≤ 1024 ∧ r.size = 32 := by
  unfold textE at h
  split at h
  · rename_i hg
    obtain ⟨h1, h2, h3, h4⟩ := hg
    refine ⟨?_, h2, h3, h4⟩
    simp only [originB, Bool.and_eq_true, decide_eq_true_eq] at h1
    omega
  · exact absurd h (by decide)
theorem goodR_ok {o g : ByteArray} {ss : List SetV} (h : goodR o g ss = true) : g.size = 32 ∧ o.size ≤ 64 ∧ ∀ s ∈ ss, qchk s.l s.n = 0 := by
  simp only [goodR, Bool.and_eq_true, beq_iff_eq, Bool.not_eq_true'] at h
  obtain ⟨h1, h2⟩ := h
  obtain ⟨t1, _, _, t4⟩ := textE_ok h1
  refine ⟨t4, t1, fun s hs => ?_⟩
  have h3 := List.any_eq_false.1 h2 s hs
  simpa [badSet] using h3
theorem goodTs_ok {f : Int} {h : ByteArray} (e : goodTs f h = true) : fits f 2 ∧ h.size = 32 := by
  simp only [goodTs, Bool.and_eq_true, beq_iff_eq] at e
  exact ⟨(numB_fits e.1).1, by omega⟩
theorem goodSn_ok {o : ByteArray} {n : Int} {r : ByteArray} {f : Int} {h : ByteArray} (e : goodSn o n r f h = true) : fits f 2 ∧ h.size = 32 ∧ o.size ≤ 64 ∧ fits n 2 ∧ r.size = 32 := by
  simp only [goodSn, Bool.and_eq_true, beq_iff_eq] at e
  obtain ⟨t1, t2, t3, t4⟩ := textE_ok e.1
  obtain ⟨q1, q2⟩ := goodTs_ok e.2
  exact ⟨q1, q2, t1, ⟨t2, fun _ => by omega⟩, t4⟩
theorem goodFrom_ok : ∀ (l : List Tg) (last : Int), 0 ≤ last → goodFrom last l = true → ∀ t ∈ l, okTg t
  | [], _, _, _, t, h => absurd h (by simp)
  | x :: l, last, h0, h, t, ht => by
    simp only [goodFrom, Bool.and_eq_true, Bool.not_eq_true'] at h
    obtain ⟨h1, h2⟩ := h
    simp only [badT, Bool.or_eq_false_iff, decide_eq_false_iff_not, Bool.not_eq_false', beq_iff_eq] at h1
    rcases List.mem_cons.1 ht with h3 | h3
    · rw [h3]
      exact ⟨⟨by omega, fun _ => by omega⟩, ⟨by omega, fun _ => by omega⟩, by omega⟩
    · exact goodFrom_ok l x.v (by omega) h2 t h3
theorem goodTg_ok {l : List Tg} (h : goodTg l = true) : l.length ≤ 64 ∧ ∀ t ∈ l, okTg t := by
  simp only [goodTg, Bool.and_eq_true, decide_eq_true_eq] at h
  exact ⟨by omega, goodFrom_ok l 0 (by decide) h.1⟩
/-- A document's bytes. -/
def docL (k v x : Int) (pay : List UInt8) : List UInt8 := ((numBytes k 1 ++ numBytes v 2) ++ numBytes x 8) ++ pay
set_option maxRecDepth 100000 in
set_option maxHeartbeats 4000000 in
theorem encode1_calls (w : World) (hgl : Glob w) (v x : Int) (s0 s1 s2 s3 s4 : SetV) (g o : ByteArray) (hs : ∀ s ∈ [s0, s1, s2, s3, s4], SetOk w s) (ho : o.size ≤ 1048576) (hk : chkF v x (goodR o g [s0, s1, s2, s3, s4]) = 0) :
    Calls Tryz.prog 11 #[.agg #[.int .i64 1, .int .i64 v, .int .i64 x, .slice s0.A s0.l.length s0.c, .int .i64 s0.n, .slice s1.A s1.l.length s1.c, .int .i64 s1.n, .slice s2.A s2.l.length s2.c, .int .i64 s2.n, .slice s3.A s3.l.length s3.c, .int .i64 s3.n, .slice s4.A s4.l.length s4.c, .int .i64 s4.n, .string g, .string o, .slice none 0 0, .string ⟨#[]⟩, .int .i64 0, .string ⟨#[]⟩, .int .i64 0, .string ⟨#[]⟩]] w fun e w' => e = .returned (.tuple #[.string (strOf (docL 1 v x (payRt o g [s0, s1, s2, s3, s4]))), .int .i64 0]) ∧ Chg (fun _ => False) w w' := by
  obtain ⟨hv, hx0, hx1, hgood⟩ := chkF_ok hk
  have FK : Hid (fits (1 : Int) 1) := Lib.hid (by decide)
  have FV := Lib.hid (numB_fits hv).1
  have FX : Hid (fits x 8) := Lib.hid ⟨hx0, fun h => absurd h (by decide)⟩
  have OK := Lib.hid (goodR_ok hgood)
  have CC := Lib.hid (fun w' (c : Chg (fun _ => False) w w') => check1_calls w' (hgl.chg c) v x s0 s1 s2 s3 s4 g o (fun s h => SRow.chg (hs s h) c (fun _ _ h => h)) ho)
  rw [hk] at CC
  have CL : Hid (∀ w0 w' b wb bs, Wo w0 w' wb (bs, false) → DAt w' b #[.int .i64 1, .int .i64 v, .int .i64 x, .slice s0.A s0.l.length s0.c, .int .i64 s0.n, .slice s1.A s1.l.length s1.c, .int .i64 s1.n, .slice s2.A s2.l.length s2.c, .int .i64 s2.n, .slice s3.A s3.l.length s3.c, .int .i64 s3.n, .slice s4.A s4.l.length s4.c, .int .i64 s4.n, .string g, .string o, .slice none 0 0, .string ⟨#[]⟩, .int .i64 0, .string ⟨#[]⟩, .int .i64 0, .string ⟨#[]⟩] → (∀ s ∈ [s0, s1, s2, s3, s4], SetOk w' s) → bs.length ≤ 10000 → Calls Tryz.prog 74 #[.pointer (some ⟨b, 0, none⟩), .pointer (some ⟨wb, 0, none⟩)] w' fun e w'' => e = .returned (.tuple #[]) ∧ Wo w0 w'' wb (bs ++ payRt o g [s0, s1, s2, s3, s4], false) ∧ KeptW w' w'') := Lib.hid (fun w0 w' b wb bs hw hd hrow hl => layRoot_calls w0 w' b wb bs #[.int .i64 1, .int .i64 v, .int .i64 x, .slice s0.A s0.l.length s0.c, .int .i64 s0.n, .slice s1.A s1.l.length s1.c, .int .i64 s1.n, .slice s2.A s2.l.length s2.c, .int .i64 s2.n, .slice s3.A s3.l.length s3.c, .int .i64 s3.n, .slice s4.A s4.l.length s4.c, .int .i64 s4.n, .string g, .string o, .slice none 0 0, .string ⟨#[]⟩, .int .i64 0, .string ⟨#[]⟩, .int .i64 0, .string ⟨#[]⟩] [s0, s1, s2, s3, s4] o g hw hd ⟨rfl, fun k s hk => by match k, hk with | 0, hk => (injection hk with hk; subst hk; exact ⟨rfl, rfl⟩) | 1, hk => (injection hk with hk; subst hk; exact ⟨rfl, rfl⟩) | 2, hk => (injection hk with hk; subst hk; exact ⟨rfl, rfl⟩) | 3, hk => (injection hk with hk; subst hk; exact ⟨rfl, rfl⟩) | 4, hk => (injection hk with hk; subst hk; exact ⟨rfl, rfl⟩) | k + 5, hk => cases hk⟩ hrow OK.out.2.2 rfl rfl OK.out.1 OK.out.2.1 hl)
  have CF := Lib.hid (fun w' => forms1 w')
  have ROW := Lib.hid hs
  obtain ⟨PP, hP⟩ : ∃ P, payRt o g [s0, s1, s2, s3, s4] = P := ⟨_, rfl⟩
  rw [hP] at CL ⊢
  have HFIN : Hid (docL 1 v x PP = ((([] ++ numBytes (1 : Int) 1) ++ numBytes v 2) ++ numBytes x 8) ++ PP) := Lib.hid rfl
  obtain ⟨R, hR⟩ : ∃ R, docL 1 v x PP = R := ⟨_, rfl⟩
  rw [hR] at HFIN ⊢
  clear hv hx0 hx1 hgood hk hgl hs ho hP hR
  go_enter Tryz.func11, Tryz.ntmps11
  go_wp2_with (refine wpList_load_row rfl 46 (.tmp 1) rfl _ rfl 46 #[.int .i64 1, .int .i64 v, .int .i64 x, .slice s0.A s0.l.length s0.c, .int .i64 s0.n, .slice s1.A s1.l.length s1.c, .int .i64 s1.n, .slice s2.A s2.l.length s2.c, .int .i64 s2.n, .slice s3.A s3.l.length s3.c, .int .i64 s3.n, .slice s4.A s4.l.length s4.c, .int .i64 s4.n, .string g, .string o, .slice none 0 0, .string ⟨#[]⟩, .int .i64 0, .string ⟨#[]⟩, .int .i64 0, .string ⟨#[]⟩] (0, 0) _ (blkAlloc w _) Tryz.underlying46 rfl docInfo ?_)
  obtain ⟨b, hb⟩ : ∃ b, w.heap.size = b := ⟨_, rfl⟩
  obtain ⟨W0, hW⟩ : ∃ W0, w.alloc (.cells #[.int .i64 1, .int .i64 v, .int .i64 x, .slice s0.A s0.l.length s0.c, .int .i64 s0.n, .slice s1.A s1.l.length s1.c, .int .i64 s1.n, .slice s2.A s2.l.length s2.c, .int .i64 s2.n, .slice s3.A s3.l.length s3.c, .int .i64 s3.n, .slice s4.A s4.l.length s4.c, .int .i64 s4.n, .string g, .string o, .slice none 0 0, .string ⟨#[]⟩, .int .i64 0, .string ⟨#[]⟩, .int .i64 0, .string ⟨#[]⟩] 46) = W0 := ⟨_, rfl⟩
  have hob : DAt W0 b #[.int .i64 1, .int .i64 v, .int .i64 x, .slice s0.A s0.l.length s0.c, .int .i64 s0.n, .slice s1.A s1.l.length s1.c, .int .i64 s1.n, .slice s2.A s2.l.length s2.c, .int .i64 s2.n, .slice s3.A s3.l.length s3.c, .int .i64 s3.n, .slice s4.A s4.l.length s4.c, .int .i64 s4.n, .string g, .string o, .slice none 0 0, .string ⟨#[]⟩, .int .i64 0, .string ⟨#[]⟩, .int .i64 0, .string ⟨#[]⟩] := by rw [← hW, ← hb]; exact blkAlloc w _
  have HCH : Hid (Chg (fun _ => False) w W0) := Lib.hid (by rw [← hW]; exact (Chg.refl _ w).alloc _)
  simp only [hW]
  simp only [hb]
  have HOB := Lib.hid hob
  clear hW hb hob
  refine (CC.out W0 HCH.out).mono ?_
  rintro e w1 ⟨rfl, hc⟩
  have HD1 := Lib.hid (hc.obj HOB.out (fun h => h))
  have HC1 := Lib.hid (HCH.out.trans hc (fun _ h => h.elim))
  have HW1 := Lib.hid (Wo.new w1)
  have HD2 : Hid (DAt (w1.alloc (.cells #[.slice none 0 0, .bool false] 96)) b #[.int .i64 1, .int .i64 v, .int .i64 x, .slice s0.A s0.l.length s0.c, .int .i64 s0.n, .slice s1.A s1.l.length s1.c, .int .i64 s1.n, .slice s2.A s2.l.length s2.c, .int .i64 s2.n, .slice s3.A s3.l.length s3.c, .int .i64 s3.n, .slice s4.A s4.l.length s4.c, .int .i64 s4.n, .string g, .string o, .slice none 0 0, .string ⟨#[]⟩, .int .i64 0, .string ⟨#[]⟩, .int .i64 0, .string ⟨#[]⟩]) := Lib.hid (blkOld HD1.out _)
  have HK0 : Hid (KeptW w1 (w1.alloc (.cells #[.slice none 0 0, .bool false] 96))) := Lib.hid (KeptW.of_chg ((Chg.refl _ w1).alloc _))
  have c0 : (w1.alloc (.cells #[.slice none 0 0, .bool false] 96)).cell? ⟨b, 0, none⟩ = some (.int .i64 1) := blkCell HD2.out 0
  clear hc HOB CC
  go_wp2_with fail
  clear c0
  obtain ⟨B, hB⟩ : ∃ B, w1.heap.size = B := ⟨_, rfl⟩
  rw [hB] at HW1
  simp only [hB]
  clear hB
  refine (wo_Byte _ _ _ _ 1 HW1.out (by show 0 ≤ _; decide)).mono ?_
  rintro e w2 ⟨rfl, hw, hk⟩
  rw [numW_ok _ _ _ FK.out] at hw
  have HW := Lib.hid hw
  have HK := Lib.hid (HK0.out.trans hk)
  have c1 : w2.cell? ⟨b, 1, none⟩ = some (.int .i64 v) := blkCell (HK.out b _ _ HD1.out (by decide) (by decide)) 1
  clear hw hk HW1 HK0 HD2
  go_wp2_with fail
  clear c1
  refine (wo_Two _ _ _ _ v HW.out (by show ([] ++ numBytes (1 : Int) 1).length ≤ _; rw [List.length_append, numBytes_len]; decide)).mono ?_
  rintro e w3 ⟨rfl, hw, hk⟩
  rw [numW_ok _ _ _ FV.out] at hw
  have HW := Lib.hid hw
  have HK := Lib.hid (HK.out.trans hk)
  have c2 : w3.cell? ⟨b, 2, none⟩ = some (.int .i64 x) := blkCell (HK.out b _ _ HD1.out (by decide) (by decide)) 2
  clear hw hk
  go_wp2_with fail
  clear c2
  refine (wo_Eight _ _ _ _ x HW.out (by show (([] ++ numBytes (1 : Int) 1) ++ numBytes v 2).length ≤ _; rw [List.length_append, List.length_append, numBytes_len, numBytes_len]; decide)).mono ?_
  rintro e w4 ⟨rfl, hw, hk⟩
  rw [numW_ok _ _ _ FX.out] at hw
  have HW := Lib.hid hw
  have HK := Lib.hid (HK.out.trans hk)
  have c0 : w4.cell? ⟨b, 0, none⟩ = some (.int .i64 1) := blkCell (HK.out b _ _ HD1.out (by decide) (by decide)) 0
  clear hw hk
  go_wp2_with fail
  clear c0
  refine (CF.out w4).mono ?_
  rintro e w5 ⟨rfl, hc⟩
  have HW := Lib.hid (HW.out.kept hc)
  have HK := Lib.hid (HK.out.trans (KeptW.of_chg hc))
  clear hc
  go_wp2_with fail
  obtain ⟨fb, hfb⟩ : ∃ f, w5.heap.size = f := ⟨_, rfl⟩
  obtain ⟨W5, hW5⟩ : ∃ W, w5.alloc (.cells #[.func (.func 73) #[] #[], .func (.func 74) #[] #[], .func (.func 75) #[] #[], .func (.func 76) #[] #[]] 89) = W := ⟨_, rfl⟩
  have hfo : W5.heap[fb]? = some (.cells #[.func (.func 73) #[] #[], .func (.func 74) #[] #[], .func (.func 75) #[] #[], .func (.func 76) #[] #[]] 89 (0, 0)) := by rw [← hW5, ← hfb]; exact blkAlloc w5 _
  have hc5 : Chg (fun _ => False) w5 W5 := by rw [← hW5]; exact (Chg.refl _ w5).alloc _
  have HW := Lib.hid (HW.out.kept hc5)
  have HK := Lib.hid (HK.out.trans (KeptW.of_chg hc5))
  try simp only [hW5]
  try simp only [hfb]
  have g1 : W5.cell? ⟨fb, 1, none⟩ = some (.func (.func 74) #[] #[]) := blkCell hfo 1
  clear hW5 hfb hfo hc5
  refine (CL.out _ _ b B _ HW.out (HK.out b _ _ HD1.out (by decide) (by decide)) (fun s h => HK.out.row (SRow.chg (ROW.out s h) HC1.out (fun _ _ h => h)) (by decide) (by decide)) (by simp only [List.length_append, numBytes_len, List.length_nil]; decide)).mono ?_
  rintro e w6 ⟨rfl, hw, hk⟩
  rw [← HFIN.out] at hw
  have HG := Lib.hid hw.chg0
  have CB := Lib.hid (wo_Bytes _ _ _ _ hw)
  clear hw hk
  go_wp2_with (go_at_call 44; refine (CB.out).mono ?_; rintro e w7 ⟨rfl, rfl⟩)
  go_ret2
  exact ⟨rfl, HC1.out.trans HG.out (fun _ h => h.elim)⟩
set_option maxRecDepth 100000 in
set_option maxHeartbeats 4000000 in
theorem encode2_calls (w : World) (hgl : Glob w) (v x : Int) (A : Option Addr) (c : Nat) (r : Option Nat) (l : List Tg) (hr : TgRow w (.slice A l.length c) r l) (hl : l.length ≤ 1048576) (hk : chkF v x (goodTg l) = 0) :
    Calls Tryz.prog 11 #[.agg #[.int .i64 2, .int .i64 v, .int .i64 x, .slice none 0 0, .int .i64 0, .slice none 0 0, .int .i64 0, .slice none 0 0, .int .i64 0, .slice none 0 0, .int .i64 0, .slice none 0 0, .int .i64 0, .string ⟨#[]⟩, .string ⟨#[]⟩, .slice A l.length c, .string ⟨#[]⟩, .int .i64 0, .string ⟨#[]⟩, .int .i64 0, .string ⟨#[]⟩]] w fun e w' => e = .returned (.tuple #[.string (strOf (docL 2 v x (payTg l))), .int .i64 0]) ∧ Chg (fun _ => False) w w' := by
  obtain ⟨hv, hx0, hx1, hgood⟩ := chkF_ok hk
  have FK : Hid (fits (2 : Int) 1) := Lib.hid (by decide)
  have FV := Lib.hid (numB_fits hv).1
  have FX : Hid (fits x 8) := Lib.hid ⟨hx0, fun h => absurd h (by decide)⟩
  have OK := Lib.hid (goodTg_ok hgood)
  have CC := Lib.hid (fun w' (c1 : Chg (fun _ => False) w w') => check2_calls w' (hgl.chg c1) v x A c r l (SRow.chg hr c1 (fun _ _ h => h)) hl)
  rw [hk] at CC
  have CL : Hid (∀ w0 w' b wb bs, Wo w0 w' wb (bs, false) → DAt w' b #[.int .i64 2, .int .i64 v, .int .i64 x, .slice none 0 0, .int .i64 0, .slice none 0 0, .int .i64 0, .slice none 0 0, .int .i64 0, .slice none 0 0, .int .i64 0, .slice none 0 0, .int .i64 0, .string ⟨#[]⟩, .string ⟨#[]⟩, .slice A l.length c, .string ⟨#[]⟩, .int .i64 0, .string ⟨#[]⟩, .int .i64 0, .string ⟨#[]⟩] → TgRow w' (.slice A l.length c) r l → bs.length ≤ 10000 → Calls Tryz.prog 78 #[.pointer (some ⟨b, 0, none⟩), .pointer (some ⟨wb, 0, none⟩)] w' fun e w'' => e = .returned (.tuple #[]) ∧ Wo w0 w'' wb (bs ++ payTg l, false) ∧ KeptW w' w'') := Lib.hid (fun w0 w' b wb bs hw hd hrow hl => layTargets_calls w0 w' b wb bs #[.int .i64 2, .int .i64 v, .int .i64 x, .slice none 0 0, .int .i64 0, .slice none 0 0, .int .i64 0, .slice none 0 0, .int .i64 0, .slice none 0 0, .int .i64 0, .slice none 0 0, .int .i64 0, .string ⟨#[]⟩, .string ⟨#[]⟩, .slice A l.length c, .string ⟨#[]⟩, .int .i64 0, .string ⟨#[]⟩, .int .i64 0, .string ⟨#[]⟩] A c r l hw hd rfl hrow OK.out.1 OK.out.2 hl)
  have CF := Lib.hid (fun w' => forms2 w')
  have ROW := Lib.hid hr
  obtain ⟨PP, hP⟩ : ∃ P, payTg l = P := ⟨_, rfl⟩
  rw [hP] at CL ⊢
  have HFIN : Hid (docL 2 v x PP = ((([] ++ numBytes (2 : Int) 1) ++ numBytes v 2) ++ numBytes x 8) ++ PP) := Lib.hid rfl
  obtain ⟨R, hR⟩ : ∃ R, docL 2 v x PP = R := ⟨_, rfl⟩
  rw [hR] at HFIN ⊢
  clear hv hx0 hx1 hgood hk hgl hr hl hP hR
  go_enter Tryz.func11, Tryz.ntmps11
  go_wp2_with (refine wpList_load_row rfl 46 (.tmp 1) rfl _ rfl 46 #[.int .i64 2, .int .i64 v, .int .i64 x, .slice none 0 0, .int .i64 0, .slice none 0 0, .int .i64 0, .slice none 0 0, .int .i64 0, .slice none 0 0, .int .i64 0, .slice none 0 0, .int .i64 0, .string ⟨#[]⟩, .string ⟨#[]⟩, .slice A l.length c, .string ⟨#[]⟩, .int .i64 0, .string ⟨#[]⟩, .int .i64 0, .string ⟨#[]⟩] (0, 0) _ (blkAlloc w _) Tryz.underlying46 rfl docInfo ?_)
  obtain ⟨b, hb⟩ : ∃ b, w.heap.size = b := ⟨_, rfl⟩
  obtain ⟨W0, hW⟩ : ∃ W0, w.alloc (.cells #[.int .i64 2, .int .i64 v, .int .i64 x, .slice none 0 0, .int .i64 0, .slice none 0 0, .int .i64 0, .slice none 0 0, .int .i64 0, .slice none 0 0, .int .i64 0, .slice none 0 0, .int .i64 0, .string ⟨#[]⟩, .string ⟨#[]⟩, .slice A l.length c, .string ⟨#[]⟩, .int .i64 0, .string ⟨#[]⟩, .int .i64 0, .string ⟨#[]⟩] 46) = W0 := ⟨_, rfl⟩
  have hob : DAt W0 b #[.int .i64 2, .int .i64 v, .int .i64 x, .slice none 0 0, .int .i64 0, .slice none 0 0, .int .i64 0, .slice none 0 0, .int .i64 0, .slice none 0 0, .int .i64 0, .slice none 0 0, .int .i64 0, .string ⟨#[]⟩, .string ⟨#[]⟩, .slice A l.length c, .string ⟨#[]⟩, .int .i64 0, .string ⟨#[]⟩, .int .i64 0, .string ⟨#[]⟩] := by rw [← hW, ← hb]; exact blkAlloc w _
  have HCH : Hid (Chg (fun _ => False) w W0) := Lib.hid (by rw [← hW]; exact (Chg.refl _ w).alloc _)
  simp only [hW]
  simp only [hb]
  have HOB := Lib.hid hob
  clear hW hb hob
  refine (CC.out W0 HCH.out).mono ?_
  rintro e w1 ⟨rfl, hc⟩
  have HD1 := Lib.hid (hc.obj HOB.out (fun h => h))
  have HC1 := Lib.hid (HCH.out.trans hc (fun _ h => h.elim))
  have HW1 := Lib.hid (Wo.new w1)
  have HD2 : Hid (DAt (w1.alloc (.cells #[.slice none 0 0, .bool false] 96)) b #[.int .i64 2, .int .i64 v, .int .i64 x, .slice none 0 0, .int .i64 0, .slice none 0 0, .int .i64 0, .slice none 0 0, .int .i64 0, .slice none 0 0, .int .i64 0, .slice none 0 0, .int .i64 0, .string ⟨#[]⟩, .string ⟨#[]⟩, .slice A l.length c, .string ⟨#[]⟩, .int .i64 0, .string ⟨#[]⟩, .int .i64 0, .string ⟨#[]⟩]) := Lib.hid (blkOld HD1.out _)
  have HK0 : Hid (KeptW w1 (w1.alloc (.cells #[.slice none 0 0, .bool false] 96))) := Lib.hid (KeptW.of_chg ((Chg.refl _ w1).alloc _))
  have c0 : (w1.alloc (.cells #[.slice none 0 0, .bool false] 96)).cell? ⟨b, 0, none⟩ = some (.int .i64 2) := blkCell HD2.out 0
  clear hc HOB CC
  go_wp2_with fail
  clear c0
  obtain ⟨B, hB⟩ : ∃ B, w1.heap.size = B := ⟨_, rfl⟩
  rw [hB] at HW1
  simp only [hB]
  clear hB
  refine (wo_Byte _ _ _ _ 2 HW1.out (by show 0 ≤ _; decide)).mono ?_
  rintro e w2 ⟨rfl, hw, hk⟩
  rw [numW_ok _ _ _ FK.out] at hw
  have HW := Lib.hid hw
  have HK := Lib.hid (HK0.out.trans hk)
  have c1 : w2.cell? ⟨b, 1, none⟩ = some (.int .i64 v) := blkCell (HK.out b _ _ HD1.out (by decide) (by decide)) 1
  clear hw hk HW1 HK0 HD2
  go_wp2_with fail
  clear c1
  refine (wo_Two _ _ _ _ v HW.out (by show ([] ++ numBytes (2 : Int) 1).length ≤ _; rw [List.length_append, numBytes_len]; decide)).mono ?_
  rintro e w3 ⟨rfl, hw, hk⟩
  rw [numW_ok _ _ _ FV.out] at hw
  have HW := Lib.hid hw
  have HK := Lib.hid (HK.out.trans hk)
  have c2 : w3.cell? ⟨b, 2, none⟩ = some (.int .i64 x) := blkCell (HK.out b _ _ HD1.out (by decide) (by decide)) 2
  clear hw hk
  go_wp2_with fail
  clear c2
  refine (wo_Eight _ _ _ _ x HW.out (by show (([] ++ numBytes (2 : Int) 1) ++ numBytes v 2).length ≤ _; rw [List.length_append, List.length_append, numBytes_len, numBytes_len]; decide)).mono ?_
  rintro e w4 ⟨rfl, hw, hk⟩
  rw [numW_ok _ _ _ FX.out] at hw
  have HW := Lib.hid hw
  have HK := Lib.hid (HK.out.trans hk)
  have c0 : w4.cell? ⟨b, 0, none⟩ = some (.int .i64 2) := blkCell (HK.out b _ _ HD1.out (by decide) (by decide)) 0
  clear hw hk
  go_wp2_with fail
  clear c0
  refine (CF.out w4).mono ?_
  rintro e w5 ⟨rfl, hc⟩
  have HW := Lib.hid (HW.out.kept hc)
  have HK := Lib.hid (HK.out.trans (KeptW.of_chg hc))
  clear hc
  go_wp2_with fail
  obtain ⟨fb, hfb⟩ : ∃ f, w5.heap.size = f := ⟨_, rfl⟩
  obtain ⟨W5, hW5⟩ : ∃ W, w5.alloc (.cells #[.func (.func 77) #[] #[], .func (.func 78) #[] #[], .func (.func 79) #[] #[], .func (.func 80) #[] #[]] 89) = W := ⟨_, rfl⟩
  have hfo : W5.heap[fb]? = some (.cells #[.func (.func 77) #[] #[], .func (.func 78) #[] #[], .func (.func 79) #[] #[], .func (.func 80) #[] #[]] 89 (0, 0)) := by rw [← hW5, ← hfb]; exact blkAlloc w5 _
  have hc5 : Chg (fun _ => False) w5 W5 := by rw [← hW5]; exact (Chg.refl _ w5).alloc _
  have HW := Lib.hid (HW.out.kept hc5)
  have HK := Lib.hid (HK.out.trans (KeptW.of_chg hc5))
  try simp only [hW5]
  try simp only [hfb]
  have g1 : W5.cell? ⟨fb, 1, none⟩ = some (.func (.func 78) #[] #[]) := blkCell hfo 1
  clear hW5 hfb hfo hc5
  refine (CL.out _ _ b B _ HW.out (HK.out b _ _ HD1.out (by decide) (by decide)) (HK.out.row (SRow.chg ROW.out HC1.out (fun _ _ h => h)) (by decide) (by decide)) (by simp only [List.length_append, numBytes_len, List.length_nil]; decide)).mono ?_
  rintro e w6 ⟨rfl, hw, hk⟩
  rw [← HFIN.out] at hw
  have HG := Lib.hid hw.chg0
  have CB := Lib.hid (wo_Bytes _ _ _ _ hw)
  clear hw hk
  go_wp2_with (go_at_call 44; refine (CB.out).mono ?_; rintro e w7 ⟨rfl, rfl⟩)
  go_ret2
  exact ⟨rfl, HC1.out.trans HG.out (fun _ h => h.elim)⟩
set_option maxRecDepth 100000 in
set_option maxHeartbeats 4000000 in
theorem encode3_calls (w : World) (hgl : Glob w) (v x : Int) (o : ByteArray) (n : Int) (r : ByteArray) (f : Int) (h : ByteArray) (ho : o.size ≤ 1048576) (hk : chkF v x (goodSn o n r f h) = 0) :
    Calls Tryz.prog 11 #[.agg #[.int .i64 3, .int .i64 v, .int .i64 x, .slice none 0 0, .int .i64 0, .slice none 0 0, .int .i64 0, .slice none 0 0, .int .i64 0, .slice none 0 0, .int .i64 0, .slice none 0 0, .int .i64 0, .string ⟨#[]⟩, .string ⟨#[]⟩, .slice none 0 0, .string o, .int .i64 n, .string r, .int .i64 f, .string h]] w fun e w' => e = .returned (.tuple #[.string (strOf (docL 3 v x (paySn o n r f h))), .int .i64 0]) ∧ Chg (fun _ => False) w w' := by
  obtain ⟨hv, hx0, hx1, hgood⟩ := chkF_ok hk
  have FK : Hid (fits (3 : Int) 1) := Lib.hid (by decide)
  have FV := Lib.hid (numB_fits hv).1
  have FX : Hid (fits x 8) := Lib.hid ⟨hx0, fun h => absurd h (by decide)⟩
  have OK := Lib.hid (goodSn_ok hgood)
  have CC := Lib.hid (fun w' (c : Chg (fun _ => False) w w') => check3_calls w' (hgl.chg c) v x o n r f h ho)
  rw [hk] at CC
  have CL : Hid (∀ w0 w' b wb bs, Wo w0 w' wb (bs, false) → DAt w' b #[.int .i64 3, .int .i64 v, .int .i64 x, .slice none 0 0, .int .i64 0, .slice none 0 0, .int .i64 0, .slice none 0 0, .int .i64 0, .slice none 0 0, .int .i64 0, .slice none 0 0, .int .i64 0, .string ⟨#[]⟩, .string ⟨#[]⟩, .slice none 0 0, .string o, .int .i64 n, .string r, .int .i64 f, .string h] → True → bs.length ≤ 10000 → Calls Tryz.prog 82 #[.pointer (some ⟨b, 0, none⟩), .pointer (some ⟨wb, 0, none⟩)] w' fun e w'' => e = .returned (.tuple #[]) ∧ Wo w0 w'' wb (bs ++ paySn o n r f h, false) ∧ KeptW w' w'') := Lib.hid (fun w0 w' b wb bs hw hd hrow hl => laySnapshot_calls w0 w' b wb bs #[.int .i64 3, .int .i64 v, .int .i64 x, .slice none 0 0, .int .i64 0, .slice none 0 0, .int .i64 0, .slice none 0 0, .int .i64 0, .slice none 0 0, .int .i64 0, .slice none 0 0, .int .i64 0, .string ⟨#[]⟩, .string ⟨#[]⟩, .slice none 0 0, .string o, .int .i64 n, .string r, .int .i64 f, .string h] o n r f h hw hd rfl rfl rfl rfl rfl OK.out.1 OK.out.2.1 OK.out.2.2.1 OK.out.2.2.2.1 OK.out.2.2.2.2 hl)
  have CF := Lib.hid (fun w' => forms3 w')
  have ROW := trivial
  obtain ⟨PP, hP⟩ : ∃ P, paySn o n r f h = P := ⟨_, rfl⟩
  rw [hP] at CL ⊢
  have HFIN : Hid (docL 3 v x PP = ((([] ++ numBytes (3 : Int) 1) ++ numBytes v 2) ++ numBytes x 8) ++ PP) := Lib.hid rfl
  obtain ⟨R, hR⟩ : ∃ R, docL 3 v x PP = R := ⟨_, rfl⟩
  rw [hR] at HFIN ⊢
  clear hv hx0 hx1 hgood hk hgl ho hP hR
  go_enter Tryz.func11, Tryz.ntmps11
  go_wp2_with (refine wpList_load_row rfl 46 (.tmp 1) rfl _ rfl 46 #[.int .i64 3, .int .i64 v, .int .i64 x, .slice none 0 0, .int .i64 0, .slice none 0 0, .int .i64 0, .slice none 0 0, .int .i64 0, .slice none 0 0, .int .i64 0, .slice none 0 0, .int .i64 0, .string ⟨#[]⟩, .string ⟨#[]⟩, .slice none 0 0, .string o, .int .i64 n, .string r, .int .i64 f, .string h] (0, 0) _ (blkAlloc w _) Tryz.underlying46 rfl docInfo ?_)
  obtain ⟨b, hb⟩ : ∃ b, w.heap.size = b := ⟨_, rfl⟩
  obtain ⟨W0, hW⟩ : ∃ W0, w.alloc (.cells #[.int .i64 3, .int .i64 v, .int .i64 x, .slice none 0 0, .int .i64 0, .slice none 0 0, .int .i64 0, .slice none 0 0, .int .i64 0, .slice none 0 0, .int .i64 0, .slice none 0 0, .int .i64 0, .string ⟨#[]⟩, .string ⟨#[]⟩, .slice none 0 0, .string o, .int .i64 n, .string r, .int .i64 f, .string h] 46) = W0 := ⟨_, rfl⟩
  have hob : DAt W0 b #[.int .i64 3, .int .i64 v, .int .i64 x, .slice none 0 0, .int .i64 0, .slice none 0 0, .int .i64 0, .slice none 0 0, .int .i64 0, .slice none 0 0, .int .i64 0, .slice none 0 0, .int .i64 0, .string ⟨#[]⟩, .string ⟨#[]⟩, .slice none 0 0, .string o, .int .i64 n, .string r, .int .i64 f, .string h] := by rw [← hW, ← hb]; exact blkAlloc w _
  have HCH : Hid (Chg (fun _ => False) w W0) := Lib.hid (by rw [← hW]; exact (Chg.refl _ w).alloc _)
  simp only [hW]
  simp only [hb]
  have HOB := Lib.hid hob
  clear hW hb hob
  refine (CC.out W0 HCH.out).mono ?_
  rintro e w1 ⟨rfl, hc⟩
  have HD1 := Lib.hid (hc.obj HOB.out (fun h => h))
  have HC1 := Lib.hid (HCH.out.trans hc (fun _ h => h.elim))
  have HW1 := Lib.hid (Wo.new w1)
  have HD2 : Hid (DAt (w1.alloc (.cells #[.slice none 0 0, .bool false] 96)) b #[.int .i64 3, .int .i64 v, .int .i64 x, .slice none 0 0, .int .i64 0, .slice none 0 0, .int .i64 0, .slice none 0 0, .int .i64 0, .slice none 0 0, .int .i64 0, .slice none 0 0, .int .i64 0, .string ⟨#[]⟩, .string ⟨#[]⟩, .slice none 0 0, .string o, .int .i64 n, .string r, .int .i64 f, .string h]) := Lib.hid (blkOld HD1.out _)
  have HK0 : Hid (KeptW w1 (w1.alloc (.cells #[.slice none 0 0, .bool false] 96))) := Lib.hid (KeptW.of_chg ((Chg.refl _ w1).alloc _))
  have c0 : (w1.alloc (.cells #[.slice none 0 0, .bool false] 96)).cell? ⟨b, 0, none⟩ = some (.int .i64 3) := blkCell HD2.out 0
  clear hc HOB CC
  go_wp2_with fail
  clear c0
  obtain ⟨B, hB⟩ : ∃ B, w1.heap.size = B := ⟨_, rfl⟩
  rw [hB] at HW1
  simp only [hB]
  clear hB
  refine (wo_Byte _ _ _ _ 3 HW1.out (by show 0 ≤ _; decide)).mono ?_
  rintro e w2 ⟨rfl, hw, hk⟩
  rw [numW_ok _ _ _ FK.out] at hw
  have HW := Lib.hid hw
  have HK := Lib.hid (HK0.out.trans hk)
  have c1 : w2.cell? ⟨b, 1, none⟩ = some (.int .i64 v) := blkCell (HK.out b _ _ HD1.out (by decide) (by decide)) 1
  clear hw hk HW1 HK0 HD2
  go_wp2_with fail
  clear c1
  refine (wo_Two _ _ _ _ v HW.out (by show ([] ++ numBytes (3 : Int) 1).length ≤ _; rw [List.length_append, numBytes_len]; decide)).mono ?_
  rintro e w3 ⟨rfl, hw, hk⟩
  rw [numW_ok _ _ _ FV.out] at hw
  have HW := Lib.hid hw
  have HK := Lib.hid (HK.out.trans hk)
  have c2 : w3.cell? ⟨b, 2, none⟩ = some (.int .i64 x) := blkCell (HK.out b _ _ HD1.out (by decide) (by decide)) 2
  clear hw hk
  go_wp2_with fail
  clear c2
  refine (wo_Eight _ _ _ _ x HW.out (by show (([] ++ numBytes (3 : Int) 1) ++ numBytes v 2).length ≤ _; rw [List.length_append, List.length_append, numBytes_len, numBytes_len]; decide)).mono ?_
  rintro e w4 ⟨rfl, hw, hk⟩
  rw [numW_ok _ _ _ FX.out] at hw
  have HW := Lib.hid hw
  have HK := Lib.hid (HK.out.trans hk)
  have c0 : w4.cell? ⟨b, 0, none⟩ = some (.int .i64 3) := blkCell (HK.out b _ _ HD1.out (by decide) (by decide)) 0
  clear hw hk
  go_wp2_with fail
  clear c0
  refine (CF.out w4).mono ?_
  rintro e w5 ⟨rfl, hc⟩
  have HW := Lib.hid (HW.out.kept hc)
  have HK := Lib.hid (HK.out.trans (KeptW.of_chg hc))
  clear hc
  go_wp2_with fail
  obtain ⟨fb, hfb⟩ : ∃ f, w5.heap.size = f := ⟨_, rfl⟩
  obtain ⟨W5, hW5⟩ : ∃ W, w5.alloc (.cells #[.func (.func 81) #[] #[], .func (.func 82) #[] #[], .func (.func 83) #[] #[], .func (.func 84) #[] #[]] 89) = W := ⟨_, rfl⟩
  have hfo : W5.heap[fb]? = some (.cells #[.func (.func 81) #[] #[], .func (.func 82) #[] #[], .func (.func 83) #[] #[], .func (.func 84) #[] #[]] 89 (0, 0)) := by rw [← hW5, ← hfb]; exact blkAlloc w5 _
  have hc5 : Chg (fun _ => False) w5 W5 := by rw [← hW5]; exact (Chg.refl _ w5).alloc _
  have HW := Lib.hid (HW.out.kept hc5)
  have HK := Lib.hid (HK.out.trans (KeptW.of_chg hc5))
  try simp only [hW5]
  try simp only [hfb]
  have g1 : W5.cell? ⟨fb, 1, none⟩ = some (.func (.func 82) #[] #[]) := blkCell hfo 1
  clear hW5 hfb hfo hc5
  refine (CL.out _ _ b B _ HW.out (HK.out b _ _ HD1.out (by decide) (by decide)) trivial (by simp only [List.length_append, numBytes_len, List.length_nil]; decide)).mono ?_
  rintro e w6 ⟨rfl, hw, hk⟩
  rw [← HFIN.out] at hw
  have HG := Lib.hid hw.chg0
  have CB := Lib.hid (wo_Bytes _ _ _ _ hw)
  clear hw hk
  go_wp2_with (go_at_call 44; refine (CB.out).mono ?_; rintro e w7 ⟨rfl, rfl⟩)
  go_ret2
  exact ⟨rfl, HC1.out.trans HG.out (fun _ h => h.elim)⟩
set_option maxRecDepth 100000 in
set_option maxHeartbeats 4000000 in
theorem encode4_calls (w : World) (hgl : Glob w) (v x : Int) (f : Int) (h : ByteArray)  (hk : chkF v x (goodTs f h) = 0) :
    Calls Tryz.prog 11 #[.agg #[.int .i64 4, .int .i64 v, .int .i64 x, .slice none 0 0, .int .i64 0, .slice none 0 0, .int .i64 0, .slice none 0 0, .int .i64 0, .slice none 0 0, .int .i64 0, .slice none 0 0, .int .i64 0, .string ⟨#[]⟩, .string ⟨#[]⟩, .slice none 0 0, .string ⟨#[]⟩, .int .i64 0, .string ⟨#[]⟩, .int .i64 f, .string h]] w fun e w' => e = .returned (.tuple #[.string (strOf (docL 4 v x (payTs f h))), .int .i64 0]) ∧ Chg (fun _ => False) w w' := by
  obtain ⟨hv, hx0, hx1, hgood⟩ := chkF_ok hk
  have FK : Hid (fits (4 : Int) 1) := Lib.hid (by decide)
  have FV := Lib.hid (numB_fits hv).1
  have FX : Hid (fits x 8) := Lib.hid ⟨hx0, fun h => absurd h (by decide)⟩
  have OK := Lib.hid (goodTs_ok hgood)
  have CC := Lib.hid (fun w' (c : Chg (fun _ => False) w w') => check4_calls w' (hgl.chg c) v x f h)
  rw [hk] at CC
  have CL : Hid (∀ w0 w' b wb bs, Wo w0 w' wb (bs, false) → DAt w' b #[.int .i64 4, .int .i64 v, .int .i64 x, .slice none 0 0, .int .i64 0, .slice none 0 0, .int .i64 0, .slice none 0 0, .int .i64 0, .slice none 0 0, .int .i64 0, .slice none 0 0, .int .i64 0, .string ⟨#[]⟩, .string ⟨#[]⟩, .slice none 0 0, .string ⟨#[]⟩, .int .i64 0, .string ⟨#[]⟩, .int .i64 f, .string h] → True → bs.length ≤ 10000 → Calls Tryz.prog 86 #[.pointer (some ⟨b, 0, none⟩), .pointer (some ⟨wb, 0, none⟩)] w' fun e w'' => e = .returned (.tuple #[]) ∧ Wo w0 w'' wb (bs ++ payTs f h, false) ∧ KeptW w' w'') := Lib.hid (fun w0 w' b wb bs hw hd hrow hl => layTimestamp_calls w0 w' b wb bs #[.int .i64 4, .int .i64 v, .int .i64 x, .slice none 0 0, .int .i64 0, .slice none 0 0, .int .i64 0, .slice none 0 0, .int .i64 0, .slice none 0 0, .int .i64 0, .slice none 0 0, .int .i64 0, .string ⟨#[]⟩, .string ⟨#[]⟩, .slice none 0 0, .string ⟨#[]⟩, .int .i64 0, .string ⟨#[]⟩, .int .i64 f, .string h] f h hw hd rfl rfl OK.out.1 OK.out.2 (Nat.le_trans hl (by decide)))
  have CF := Lib.hid (fun w' => forms4 w')
  have ROW := trivial
  obtain ⟨PP, hP⟩ : ∃ P, payTs f h = P := ⟨_, rfl⟩
  rw [hP] at CL ⊢
  have HFIN : Hid (docL 4 v x PP = ((([] ++ numBytes (4 : Int) 1) ++ numBytes v 2) ++ numBytes x 8) ++ PP) := Lib.hid rfl
  obtain ⟨R, hR⟩ : ∃ R, docL 4 v x PP = R := ⟨_, rfl⟩
  rw [hR] at HFIN ⊢
  clear hv hx0 hx1 hgood hk hgl  hP hR
  go_enter Tryz.func11, Tryz.ntmps11
  go_wp2_with (refine wpList_load_row rfl 46 (.tmp 1) rfl _ rfl 46 #[.int .i64 4, .int .i64 v, .int .i64 x, .slice none 0 0, .int .i64 0, .slice none 0 0, .int .i64 0, .slice none 0 0, .int .i64 0, .slice none 0 0, .int .i64 0, .slice none 0 0, .int .i64 0, .string ⟨#[]⟩, .string ⟨#[]⟩, .slice none 0 0, .string ⟨#[]⟩, .int .i64 0, .string ⟨#[]⟩, .int .i64 f, .string h] (0, 0) _ (blkAlloc w _) Tryz.underlying46 rfl docInfo ?_)
  obtain ⟨b, hb⟩ : ∃ b, w.heap.size = b := ⟨_, rfl⟩
  obtain ⟨W0, hW⟩ : ∃ W0, w.alloc (.cells #[.int .i64 4, .int .i64 v, .int .i64 x, .slice none 0 0, .int .i64 0, .slice none 0 0, .int .i64 0, .slice none 0 0, .int .i64 0, .slice none 0 0, .int .i64 0, .slice none 0 0, .int .i64 0, .string ⟨#[]⟩, .string ⟨#[]⟩, .slice none 0 0, .string ⟨#[]⟩, .int .i64 0, .string ⟨#[]⟩, .int .i64 f, .string h] 46) = W0 := ⟨_, rfl⟩
  have hob : DAt W0 b #[.int .i64 4, .int .i64 v, .int .i64 x, .slice none 0 0, .int .i64 0, .slice none 0 0, .int .i64 0, .slice none 0 0, .int .i64 0, .slice none 0 0, .int .i64 0, .slice none 0 0, .int .i64 0, .string ⟨#[]⟩, .string ⟨#[]⟩, .slice none 0 0, .string ⟨#[]⟩, .int .i64 0, .string ⟨#[]⟩, .int .i64 f, .string h] := by rw [← hW, ← hb]; exact blkAlloc w _
  have HCH : Hid (Chg (fun _ => False) w W0) := Lib.hid (by rw [← hW]; exact (Chg.refl _ w).alloc _)
  simp only [hW]
  simp only [hb]
  have HOB := Lib.hid hob
  clear hW hb hob
  refine (CC.out W0 HCH.out).mono ?_
  rintro e w1 ⟨rfl, hc⟩
  have HD1 := Lib.hid (hc.obj HOB.out (fun h => h))
  have HC1 := Lib.hid (HCH.out.trans hc (fun _ h => h.elim))
  have HW1 := Lib.hid (Wo.new w1)
  have HD2 : Hid (DAt (w1.alloc (.cells #[.slice none 0 0, .bool false] 96)) b #[.int .i64 4, .int .i64 v, .int .i64 x, .slice none 0 0, .int .i64 0, .slice none 0 0, .int .i64 0, .slice none 0 0, .int .i64 0, .slice none 0 0, .int .i64 0, .slice none 0 0, .int .i64 0, .string ⟨#[]⟩, .string ⟨#[]⟩, .slice none 0 0, .string ⟨#[]⟩, .int .i64 0, .string ⟨#[]⟩, .int .i64 f, .string h]) := Lib.hid (blkOld HD1.out _)
  have HK0 : Hid (KeptW w1 (w1.alloc (.cells #[.slice none 0 0, .bool false] 96))) := Lib.hid (KeptW.of_chg ((Chg.refl _ w1).alloc _))
  have c0 : (w1.alloc (.cells #[.slice none 0 0, .bool false] 96)).cell? ⟨b, 0, none⟩ = some (.int .i64 4) := blkCell HD2.out 0
  clear hc HOB CC
  go_wp2_with fail
  clear c0
  obtain ⟨B, hB⟩ : ∃ B, w1.heap.size = B := ⟨_, rfl⟩
  rw [hB] at HW1
  simp only [hB]
  clear hB
  refine (wo_Byte _ _ _ _ 4 HW1.out (by show 0 ≤ _; decide)).mono ?_
  rintro e w2 ⟨rfl, hw, hk⟩
  rw [numW_ok _ _ _ FK.out] at hw
  have HW := Lib.hid hw
  have HK := Lib.hid (HK0.out.trans hk)
  have c1 : w2.cell? ⟨b, 1, none⟩ = some (.int .i64 v) := blkCell (HK.out b _ _ HD1.out (by decide) (by decide)) 1
  clear hw hk HW1 HK0 HD2
  go_wp2_with fail
  clear c1
  refine (wo_Two _ _ _ _ v HW.out (by show ([] ++ numBytes (4 : Int) 1).length ≤ _; rw [List.length_append, numBytes_len]; decide)).mono ?_
  rintro e w3 ⟨rfl, hw, hk⟩
  rw [numW_ok _ _ _ FV.out] at hw
  have HW := Lib.hid hw
  have HK := Lib.hid (HK.out.trans hk)
  have c2 : w3.cell? ⟨b, 2, none⟩ = some (.int .i64 x) := blkCell (HK.out b _ _ HD1.out (by decide) (by decide)) 2
  clear hw hk
  go_wp2_with fail
  clear c2
  refine (wo_Eight _ _ _ _ x HW.out (by show (([] ++ numBytes (4 : Int) 1) ++ numBytes v 2).length ≤ _; rw [List.length_append, List.length_append, numBytes_len, numBytes_len]; decide)).mono ?_
  rintro e w4 ⟨rfl, hw, hk⟩
  rw [numW_ok _ _ _ FX.out] at hw
  have HW := Lib.hid hw
  have HK := Lib.hid (HK.out.trans hk)
  have c0 : w4.cell? ⟨b, 0, none⟩ = some (.int .i64 4) := blkCell (HK.out b _ _ HD1.out (by decide) (by decide)) 0
  clear hw hk
  go_wp2_with fail
  clear c0
  refine (CF.out w4).mono ?_
  rintro e w5 ⟨rfl, hc⟩
  have HW := Lib.hid (HW.out.kept hc)
  have HK := Lib.hid (HK.out.trans (KeptW.of_chg hc))
  clear hc
  go_wp2_with fail
  obtain ⟨fb, hfb⟩ : ∃ f, w5.heap.size = f := ⟨_, rfl⟩
  obtain ⟨W5, hW5⟩ : ∃ W, w5.alloc (.cells #[.func (.func 85) #[] #[], .func (.func 86) #[] #[], .func (.func 87) #[] #[], .func (.func 88) #[] #[]] 89) = W := ⟨_, rfl⟩
  have hfo : W5.heap[fb]? = some (.cells #[.func (.func 85) #[] #[], .func (.func 86) #[] #[], .func (.func 87) #[] #[], .func (.func 88) #[] #[]] 89 (0, 0)) := by rw [← hW5, ← hfb]; exact blkAlloc w5 _
  have hc5 : Chg (fun _ => False) w5 W5 := by rw [← hW5]; exact (Chg.refl _ w5).alloc _
  have HW := Lib.hid (HW.out.kept hc5)
  have HK := Lib.hid (HK.out.trans (KeptW.of_chg hc5))
  try simp only [hW5]
  try simp only [hfb]
  have g1 : W5.cell? ⟨fb, 1, none⟩ = some (.func (.func 86) #[] #[]) := blkCell hfo 1
  clear hW5 hfb hfo hc5
  refine (CL.out _ _ b B _ HW.out (HK.out b _ _ HD1.out (by decide) (by decide)) trivial (by simp only [List.length_append, numBytes_len, List.length_nil]; decide)).mono ?_
  rintro e w6 ⟨rfl, hw, hk⟩
  rw [← HFIN.out] at hw
  have HG := Lib.hid hw.chg0
  have CB := Lib.hid (wo_Bytes _ _ _ _ hw)
  clear hw hk
  go_wp2_with (go_at_call 44; refine (CB.out).mono ?_; rintro e w7 ⟨rfl, rfl⟩)
  go_ret2
  exact ⟨rfl, HC1.out.trans HG.out (fun _ h => h.elim)⟩
end Go.Proofs.YtmbipabiagdaaaaGreatDoor

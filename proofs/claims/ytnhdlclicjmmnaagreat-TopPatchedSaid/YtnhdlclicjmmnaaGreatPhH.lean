/- TopPatched: delta's take: a copy; an addition's head. -/
import Derived.Test.YtnhdlclicjmmnaaGreatPhG
namespace Go.Proofs.YtnhdlclicjmmnaaGreat
open Go.RowKit Go.Lib Go.Shelf
theorem pt_fits (w0 w : World) (p k sz : Nat) (c : PC) (bs : List UInt8) (h : Pt w0 w p c bs) (hs : c.size = sz) (hk : k + bs.length ≤ sz) (hz : sz ≤ 1000000) :
    Calls Tryz.prog 60 #[.pointer (some ⟨p, 0, none⟩), .int .i64 k] w fun e w' => e = .returned (.bool true) ∧ Pt w0 w' p c bs := by
  obtain ⟨a, v, hc⟩ := h.cells
  obtain ⟨A, q, h8⟩ := h.len
  exact (pfits_calls w p bs.length q sz k A (by rw [← hs]; exact blkCell hc 2) h8 (blkCell hc 9) hk hz).mono fun e w' ⟨he, g⟩ => ⟨he, h.kept g⟩
theorem copy_enc (f n : Nat) : (DOp.copy f n).enc = numBytes (1 : Int) 1 ++ (numBytes (f : Int) 4 ++ numBytes (n : Int) 2) := rfl
theorem cp1 (f n : Nat) : numF (strOf (DOp.copy f n).enc, 0) 1 = (1, strOf (numBytes (f : Int) 4 ++ numBytes (n : Int) 2), 0) :=
  num_laid 1 1 _ ⟨by decide, fun _ => by decide⟩ (by omega) (by omega)
theorem cp2 (f n : Nat) (hf : f ≤ 1048576) : numF (strOf (numBytes (f : Int) 4 ++ numBytes (n : Int) 2), 0) 4 = ((f : Int), strOf (numBytes (n : Int) 2), 0) :=
  num_laid f 4 _ (fits4 _ hf) (by omega) (by omega)
theorem cp3 (n : Nat) (hn : n ≤ 65535) : ∃ y, numF (strOf (numBytes (n : Int) 2), 0) 2 = ((n : Int), y) := by
  have := num_laid n 2 [] (fits2n _ hn) (by omega) (by omega)
  rw [List.append_nil] at this
  exact ⟨_, this⟩
theorem ad1 (n : Nat) : numF (strOf (2 :: numBytes (n : Int) 2), 0) 1 = (2, strOf (numBytes (n : Int) 2), 0) :=
  num_laid 2 1 _ ⟨by decide, fun _ => by decide⟩ (by omega) (by omega)
theorem enc_head {s : ByteArray} {n : Nat} {x : UInt8} {l : List UInt8} (h : s.extract 0 n = strOf (x :: l)) : s.data.toList[0]? = some x := by
  have h2 := congrArg (fun z : ByteArray => z.data.toList) h
  simp only [ByteArray.data_extract, Array.toList_extract] at h2
  have h3 : (strOf (x :: l)).data.toList = x :: l := rfl
  rw [h3] at h2
  cases hs : s.data.toList with
  | nil => rw [hs] at h2; simp at h2
  | cons y t =>
    rw [hs] at h2
    cases n with
    | zero => simp at h2
    | succ n =>
      simp [List.extract] at h2
      rw [h2.1]
      rfl
set_option maxRecDepth 100000 in
set_option maxHeartbeats 2000000 in
theorem takeD_calls (w0 w : World) (p n sz : Nat) (c : PC) (bs : List UInt8) (h : Pt w0 w p c bs) (hw : 3 ≤ c.wait.size) (he : c.wait.extract 0 3 = strOf (2 :: numBytes (n : Int) 2)) (ha : c.adds = 0) (hb : c.begun = true) (hn : 0 < n) (hn2 : n ≤ 65535) (hs : c.size = sz) (hk : n + bs.length ≤ sz) (hz : sz ≤ 65535) :
    Calls Tryz.prog 33 #[.pointer (some ⟨p, 0, none⟩)] w fun e w' => e = .returned (.bool true) ∧ Pt w0 w' p { c with wait := c.wait.extract 3 c.wait.size, adds := n } bs := by
  obtain ⟨e0, e1, e4, e5⟩ := h.e0145
  have C1 := Lib.hid (pr_cut w0 w p 3 c bs h hw)
  have d0 := wstr_ne (s := c.wait) (by omega)
  have HI : ∀ w, (Instr.index 9 (.string c.wait) (.int .i64 0)).run Tryz.prog w = .ok (.int .u8 2) w := idx0 c.wait 2 (enc_head he)
  have H1 := Lib.hid (ad1 n)
  obtain ⟨y3, H3⟩ := cp3 n hn2
  have H3 := Lib.hid H3
  have z1 : (strOf (2 :: numBytes (n : Int) 2)).size ≤ 1048576 := by rw [strOf_size]; simp [numBytes_len]
  have z2 : (strOf (numBytes (n : Int) 2)).size ≤ 1048576 := by rw [strOf_size, numBytes_len]; decide
  obtain ⟨old, wait, size, hash, begun, adds, seen⟩ := c
  simp only at *
  rw [he] at C1
  have d1 : decide ((3 : Int) ≤ (wait.size : Int)) = true := decide_eq_true (by omega)
  have d2 : ((n : Int) == 0) = false := beq_eq_false_iff_ne.2 (by omega)
  obtain ⟨x0, hx0⟩ : ∃ x, strOf (2 :: numBytes (n : Int) 2) = x := ⟨_, rfl⟩
  obtain ⟨x1, hx1⟩ : ∃ x, strOf (numBytes (n : Int) 2) = x := ⟨_, rfl⟩
  rw [hx0] at C1 H1 z1
  rw [hx1] at H1 H3 z2
  obtain ⟨wait2, hwait2⟩ : ∃ x, wait.extract 3 wait.size = x := ⟨_, rfl⟩
  rw [hwait2] at C1 ⊢
  subst ha hb hs
  have CF := Lib.hid (fun (w : World) (q : Pt w0 w p ⟨old, wait2, sz, hash, true, 0, seen⟩ bs) => pt_fits w0 w p n sz _ bs q rfl hk (by omega))
  clear hx0 hx1 hwait2 h he hk hz e0
  go_enter Tryz.func33, Tryz.ntmps33
  go_wp2_with fail
  refine (C1.out).mono ?_
  rintro e w1 ⟨R, rfl, hp⟩
  have HP := Lib.hid hp
  clear hp e1 e4 e5 d0 C1 HI
  go_wp2_with fail
  refine (pr_Byte _ _ _ _ _ _ _ HP.out z1).mono ?_
  rw [H1.out]
  rintro e w2 ⟨rfl, hp⟩
  have HP := Lib.hid hp
  clear hp
  go_wp2_with fail
  refine (pr_Two _ _ _ _ _ _ _ HP.out z2).mono ?_
  rw [H3.out]
  rintro e w3 ⟨rfl, hp⟩
  have HP := Lib.hid hp.1
  clear hp
  go_wp2_with fail
  refine (CF.out _ HP.out).mono ?_
  rintro e w4 ⟨rfl, hp⟩
  obtain ⟨a, v, hc⟩ := hp.cells
  have HP := Lib.hid hp
  have f5 := blkFree hc 5
  have e5 : w4.cell? ⟨p, 5, none⟩ = some (.int .i64 0) := blkCell hc 5
  clear hp hc
  go_wp2_with fail
  go_ret
  refine ⟨rfl, HP.out.set ((Chg.refl (fun j => j = p) _).setCell (p := ⟨p, 5, none⟩) (.inl rfl) _) (fun a v h => ?_)⟩
  exact blkSet h 5 _
set_option maxRecDepth 100000 in
set_option maxHeartbeats 2000000 in
theorem takeC_calls (w0 w : World) (p f n sz : Nat) (c : PC) (bs : List UInt8) (h : Pt w0 w p c bs) (hw : 7 ≤ c.wait.size) (he : c.wait.extract 0 7 = strOf (DOp.copy f n).enc) (ha : c.adds = 0) (hb : c.begun = true) (hn : 0 < n) (hfo : f + n ≤ c.old.size) (hos : c.old.size ≤ 8192) (hs : c.size = sz) (hk : n + bs.length ≤ sz) (hz : sz ≤ 65535) :
    Calls Tryz.prog 33 #[.pointer (some ⟨p, 0, none⟩)] w fun e w' => e = .returned (.bool true) ∧ Pt w0 w' p { c with wait := c.wait.extract 7 c.wait.size } (bs ++ (c.old.extract f (f + n)).data.toList) := by
  obtain ⟨e0, e1, e4, e5⟩ := h.e0145
  have C1 := Lib.hid (pr_cut w0 w p 7 c bs h hw)
  have d0 := wstr_ne (s := c.wait) (by omega)
  have HI : ∀ w, (Instr.index 9 (.string c.wait) (.int .i64 0)).run Tryz.prog w = .ok (.int .u8 1) w := idx0 c.wait 1 (enc_head (l := numBytes (f : Int) 4 ++ numBytes (n : Int) 2) he)
  have H1 := Lib.hid (cp1 f n)
  have H2 := Lib.hid (cp2 f n (by omega))
  obtain ⟨y3, H3⟩ := cp3 n (by omega)
  have H3 := Lib.hid H3
  have z1 : (strOf (DOp.copy f n).enc).size ≤ 1048576 := by rw [strOf_size, enc_copy_len]; decide
  have z2 : (strOf (numBytes (f : Int) 4 ++ numBytes (n : Int) 2)).size ≤ 1048576 := by rw [strOf_size]; simp [numBytes_len]
  have z3 : (strOf (numBytes (n : Int) 2)).size ≤ 1048576 := by rw [strOf_size, numBytes_len]; decide
  obtain ⟨old, wait, size, hash, begun, adds, seen⟩ := c
  simp only at *
  rw [he] at C1
  have d1 : decide ((7 : Int) ≤ (wait.size : Int)) = true := decide_eq_true (by omega)
  have d2 : ((n : Int) == 0) = false := beq_eq_false_iff_ne.2 (by omega)
  have k1 : IntKind.i64.wrap ((old.size : Int) - f) = (old.size : Int) - f := by rw [IntKind.wrap_i64]; omega
  have k2 : IntKind.i64.wrap ((f : Int) + n) = (f : Int) + n := by rw [IntKind.wrap_i64]; omega
  have d3 : decide ((old.size : Int) < (f : Int)) = false := decide_eq_false (by omega)
  have d4 : decide ((old.size : Int) - f < (n : Int)) = false := decide_eq_false (by omega)
  obtain ⟨x0, hx0⟩ : ∃ x, strOf (DOp.copy f n).enc = x := ⟨_, rfl⟩
  obtain ⟨x1, hx1⟩ : ∃ x, strOf (numBytes (f : Int) 4 ++ numBytes (n : Int) 2) = x := ⟨_, rfl⟩
  obtain ⟨x2, hx2⟩ : ∃ x, strOf (numBytes (n : Int) 2) = x := ⟨_, rfl⟩
  rw [hx0] at C1 H1 z1
  rw [hx1] at H1 H2 z2
  rw [hx2] at H2 H3 z3
  obtain ⟨wait2, hwait2⟩ : ∃ x, wait.extract 7 wait.size = x := ⟨_, rfl⟩
  rw [hwait2] at C1 ⊢
  subst ha hb hs
  have CF := Lib.hid (fun (w : World) (q : Pt w0 w p ⟨old, wait2, sz, hash, true, 0, seen⟩ bs) => pt_fits w0 w p n sz _ bs q rfl hk (by omega))
  have CW := Lib.hid (fun (w : World) (q : Pt w0 w p ⟨old, wait2, sz, hash, true, 0, seen⟩ bs) => pwrite_calls w0 w p _ bs (old.extract f (f + n)) q (by rw [ByteArray.size_extract]; omega))
  clear hx0 hx1 hx2 hwait2 h he hk hz e0
  have q0 : (0 : Int) ≤ (f : Int) := by omega
  have q1 : (0 : Int) ≤ (f : Int) + n := by omega
  have q2 : (f : Int) + n ≤ (old.size : Int) := by omega
  have q3 : (f : Int) ≤ (f : Int) + n := by omega
  have q4 : ((f : Int) + (n : Int)).toNat = f + n := by omega
  go_enter Tryz.func33, Tryz.ntmps33
  go_wp2_with fail
  refine (C1.out).mono ?_
  rintro e w1 ⟨R, rfl, hp⟩
  have HP := Lib.hid hp
  clear hp e1 e4 e5 d0 C1 HI
  go_wp2_with fail
  refine (pr_Byte _ _ _ _ _ _ _ HP.out z1).mono ?_
  rw [H1.out]
  rintro e w2 ⟨rfl, hp⟩
  have HP := Lib.hid hp
  clear hp
  go_wp2_with fail
  refine (pr_Four _ _ _ _ _ _ _ HP.out z2).mono ?_
  rw [H2.out]
  rintro e w3 ⟨rfl, hp⟩
  have HP := Lib.hid hp
  clear hp
  go_wp2_with fail
  refine (pr_Two _ _ _ _ _ _ _ HP.out z3).mono ?_
  rw [H3.out]
  rintro e w4 ⟨rfl, hp⟩
  obtain ⟨e0, _, _, _⟩ := hp.1.e0145
  have HP := Lib.hid hp.1
  clear hp
  go_wp2_with fail
  clear e0
  refine (CF.out _ HP.out).mono ?_
  rintro e w5 ⟨rfl, hp⟩
  obtain ⟨e0, _, _, _⟩ := hp.e0145
  have C9 := Lib.hid (CW.out w5.drew (hp.kept ((Chg.refl _ w5).drew)))
  clear hp CW CF
  go_wp2_with fail
  go_region_held3 (fun w' => w'.cell? ⟨p, 0, none⟩ = some (.string old)) (first | exact e0 | exact g0)
    (first
      | (go_at_call 54; (with_reducible refine C9.out.mono ?_); rintro e w6 ⟨⟨u, rfl⟩, hp⟩; obtain ⟨g0, _, _, _⟩ := hp.e0145; have HQ := Lib.hid hp; clear hp)
      | fail "NOFIT")
  all_goals
    go_wp2_with fail
    go_ret
    exact ⟨rfl, HQ.out⟩
end Go.Proofs.YtnhdlclicjmmnaaGreat

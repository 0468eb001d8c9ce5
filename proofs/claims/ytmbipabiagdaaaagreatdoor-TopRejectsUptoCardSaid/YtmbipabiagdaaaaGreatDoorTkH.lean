/- TopRejects: meta: what each kind lays. -/
import Derived.Test.YtmbipabiagdaaaaGreatDoorTkG
namespace Go.Proofs.YtmbipabiagdaaaaGreatDoor
open Go.RowKit Go.Lib Go.Shelf
theorem numB_fits {f : Int} (h : numB f = true) : fits f 2 ∧ 1 ≤ f ∧ f ≤ 65535 := by
  simp only [numB, Bool.and_eq_true, decide_eq_true_eq] at h
  exact ⟨⟨by omega, fun _ => by omega⟩, h⟩
def payTs (f : Int) (h : ByteArray) : List UInt8 := numBytes f 2 ++ h.data.toList
theorem bs_len (h : ByteArray) : h.data.toList.length = h.size := Array.length_toList
set_option maxRecDepth 100000 in
theorem layTimestamp_calls (w0 w : World) (b wb : Nat) (bs : List UInt8) (cs : Array Value) (f : Int) (h : ByteArray) (hw : Wo w0 w wb (bs, false)) (hd : DAt w b cs) (hf : cs[19]? = some (.int .i64 f)) (hh : cs[20]? = some (.string h)) (h1 : fits f 2) (h2 : h.size = 32) (hl : bs.length ≤ 1000000) :
    Calls Tryz.prog 86 #[.pointer (some ⟨b, 0, none⟩), .pointer (some ⟨wb, 0, none⟩)] w fun e w' => e = .returned (.tuple #[]) ∧ Wo w0 w' wb (bs ++ payTs f h, false) ∧ KeptW w w' := by
  have c0 : w.cell? ⟨b, 19, none⟩ = some (.int .i64 f) := (blkCell hd 19).trans hf
  have CB := Lib.hid (fun (w' : World) (k : KeptW w w') => ((blkCell (k b _ _ hd (by decide) (by decide)) 20).trans hh : w'.cell? ⟨b, 20, none⟩ = some (.string h)))
  have HW := Lib.hid hw
  have H1 := Lib.hid h1
  have H2 := Lib.hid h2
  have HL := Lib.hid hl
  clear hd hf hh hw h1 h2 hl
  go_enter Tryz.func86, Tryz.ntmps86
  go_wp2_with fail
  refine (wo_Two w0 _ wb _ f HW.out (Nat.le_trans HL.out (by decide))).mono ?_
  rintro e w1 ⟨rfl, hw, hk⟩
  rw [numW_ok _ _ _ H1.out] at hw
  have c1 := CB.out w1 hk
  have HW1 := Lib.hid hw
  have HK1 := Lib.hid hk
  clear hw hk c0
  go_wp2_with fail
  refine (wo_Hash w0 _ wb _ h HW1.out (Nat.le_trans (Nat.add_le_add (show (bs ++ numBytes f 2).length ≤ 1000002 by rw [List.length_append, numBytes_len]; exact Nat.add_le_add_right HL.out 2) (Nat.le_of_eq H2.out)) (by decide))).mono ?_
  rintro e w2 ⟨rfl, hw, hk⟩
  rw [whashW_ok _ _ H2.out, List.append_assoc] at hw
  have HW2 := Lib.hid hw
  have HK2 := Lib.hid (HK1.out.trans hk)
  clear hw hk c1
  go_wp2_with fail
  go_end0
  exact ⟨rfl, HW2.out, HK2.out⟩
def paySn (o : ByteArray) (n : Int) (r : ByteArray) (f : Int) (h : ByteArray) : List UInt8 := ((payTs f h ++ (numBytes (o.size : Int) 2 ++ o.data.toList)) ++ numBytes n 2) ++ r.data.toList
theorem payTs_len (f : Int) (h : ByteArray) (h2 : h.size = 32) : (payTs f h).length = 34 := by
  rw [payTs, List.length_append, numBytes_len, bs_len, h2]
set_option maxRecDepth 100000 in
theorem laySnapshot_calls (w0 w : World) (b wb : Nat) (bs : List UInt8) (cs : Array Value) (o : ByteArray) (n : Int) (r : ByteArray) (f : Int) (h : ByteArray) (hw : Wo w0 w wb (bs, false)) (hd : DAt w b cs)
    (h16 : cs[16]? = some (.string o)) (h17 : cs[17]? = some (.int .i64 n)) (h18 : cs[18]? = some (.string r)) (hf : cs[19]? = some (.int .i64 f)) (hh : cs[20]? = some (.string h)) (h1 : fits f 2) (h2 : h.size = 32) (h3 : o.size ≤ 64) (h4 : fits n 2) (h5 : r.size = 32) (hl : bs.length ≤ 10000) :
    Calls Tryz.prog 82 #[.pointer (some ⟨b, 0, none⟩), .pointer (some ⟨wb, 0, none⟩)] w fun e w' => e = .returned (.tuple #[]) ∧ Wo w0 w' wb (bs ++ paySn o n r f h, false) ∧ KeptW w w' := by
  have C0 := Lib.hid (layTimestamp_calls w0 w b wb bs cs f h hw hd hf hh h1 h2 (by omega))
  have CB := Lib.hid (fun (w' : World) (k : KeptW w w') => (⟨(blkCell (k b _ _ hd (by decide) (by decide)) 16).trans h16, (blkCell (k b _ _ hd (by decide) (by decide)) 17).trans h17, (blkCell (k b _ _ hd (by decide) (by decide)) 18).trans h18⟩ : w'.cell? ⟨b, 16, none⟩ = some (.string o) ∧ w'.cell? ⟨b, 17, none⟩ = some (.int .i64 n) ∧ w'.cell? ⟨b, 18, none⟩ = some (.string r)))
  have hpl := payTs_len f h h2
  have H3 := Lib.hid h3
  have H4 := Lib.hid h4
  have H5 := Lib.hid h5
  have hL1 : (bs ++ payTs f h).length ≤ 10034 := by rw [List.length_append, hpl]; omega
  obtain ⟨b1, hb1⟩ : ∃ b1, bs ++ payTs f h = b1 := ⟨_, rfl⟩
  have hL2 : (b1 ++ (numBytes (o.size : Int) 2 ++ o.data.toList)).length ≤ 10100 := by rw [← hb1]; simp only [List.length_append, numBytes_len, bs_len, hpl]; omega
  have hL3 : ((b1 ++ (numBytes (o.size : Int) 2 ++ o.data.toList)) ++ numBytes n 2).length ≤ 10102 := by rw [List.length_append, numBytes_len]; omega
  have HP : Hid (bs ++ paySn o n r f h = ((b1 ++ (numBytes (o.size : Int) 2 ++ o.data.toList)) ++ numBytes n 2) ++ r.data.toList) := Lib.hid (by
    rw [paySn, ← hb1]
    simp only [List.append_assoc])
  rw [hb1] at C0 hL1
  have HL1 := Lib.hid hL1
  have HL2 := Lib.hid hL2
  have HL3 := Lib.hid hL3
  obtain ⟨P, hP⟩ : ∃ P, bs ++ paySn o n r f h = P := ⟨_, rfl⟩
  rw [hP] at HP ⊢
  clear hw hd h16 h17 h18 hf hh h1 h2 h3 h4 h5 hpl hb1 hP hL1 hL2 hL3
  go_enter Tryz.func82, Tryz.ntmps82
  go_wp2_with fail
  refine (C0.out).mono ?_
  rintro e w1 ⟨rfl, hw, hk⟩
  obtain ⟨c0, c1, c2⟩ := CB.out w1 hk
  have HW := Lib.hid hw
  have HK := Lib.hid hk
  clear hw hk
  go_wp2_with fail
  clear c0 c1 c2
  refine (wo_Text w0 _ wb _ o HW.out (Nat.le_trans (Nat.add_le_add HL1.out H3.out) (by decide))).mono ?_
  rintro e w2 ⟨rfl, hw, hk⟩
  rw [wtextW_ok _ _ (Nat.le_trans H3.out (by decide))] at hw
  have HW := Lib.hid hw
  have HK := Lib.hid (HK.out.trans hk)
  clear hw hk
  obtain ⟨c0, c1, c2⟩ := CB.out w2 HK.out
  go_wp2_with fail
  clear c0 c1 c2
  refine (wo_Two w0 _ wb _ n HW.out (Nat.le_trans HL2.out (by decide))).mono ?_
  rintro e w3 ⟨rfl, hw, hk⟩
  rw [numW_ok _ _ _ H4.out] at hw
  have HW := Lib.hid hw
  have HK := Lib.hid (HK.out.trans hk)
  clear hw hk
  obtain ⟨c0, c1, c2⟩ := CB.out w3 HK.out
  go_wp2_with fail
  clear c0 c1 c2
  refine (wo_Hash w0 _ wb _ r HW.out (Nat.le_trans (Nat.add_le_add HL3.out (Nat.le_of_eq H5.out)) (by decide))).mono ?_
  rintro e w4 ⟨rfl, hw, hk⟩
  rw [whashW_ok _ _ H5.out] at hw
  have HW := Lib.hid hw
  have HK := Lib.hid (HK.out.trans hk)
  clear hw hk
  go_wp2_with fail
  go_end0
  exact ⟨rfl, by rw [HP.out]; exact HW.out, HK.out⟩
def tgL (t : Tg) : List UInt8 := (numBytes t.v 1 ++ numBytes t.a 2) ++ t.l.data.toList
def tgsL (l : List Tg) : List UInt8 := l.flatMap tgL
def payTg (l : List Tg) : List UInt8 := numBytes (l.length : Int) 1 ++ tgsL l
def okTg (t : Tg) : Prop := fits t.v 1 ∧ fits t.a 2 ∧ t.l.size = 32
theorem tgL_len (t : Tg) (h : t.l.size = 32) : (tgL t).length = 35 := by
  rw [tgL, List.length_append, List.length_append, numBytes_len, numBytes_len, bs_len, h]
theorem tgsL_len (l : List Tg) (h : ∀ t ∈ l, t.l.size = 32) : (tgsL l).length = 35 * l.length := by
  induction l with
  | nil => rfl
  | cons x l ih =>
    have h1 := ih (fun y hy => h y (List.mem_cons_of_mem _ hy))
    have h2 := tgL_len x (h x (List.mem_cons_self ..))
    rw [tgsL] at h1 ⊢
    rw [List.flatMap_cons, List.length_append, h2, h1, List.length_cons]
    omega
theorem tgsL_at (l : List Tg) (k : Nat) (t : Tg) (h : l[k]? = some t) : tgsL (l.take (k + 1)) = tgsL (l.take k) ++ tgL t := by
  obtain ⟨hk, hx⟩ := List.getElem?_eq_some_iff.1 h
  rw [List.take_succ_eq_append_getElem hk, tgsL, List.flatMap_append, hx]
  simp [tgsL]
set_option maxRecDepth 100000 in
set_option maxHeartbeats 2000000 in
theorem layTargets_calls (w0 w : World) (b wb : Nat) (bs : List UInt8) (cs : Array Value) (A : Option Addr) (c : Nat) (r : Option Nat) (l : List Tg) (hw : Wo w0 w wb (bs, false)) (hd : DAt w b cs) (ht : cs[15]? = some (.slice A l.length c)) (hr : TgRow w (.slice A l.length c) r l)
    (hl64 : l.length ≤ 64) (hok : ∀ t ∈ l, okTg t) (hl : bs.length ≤ 10000) :
    Calls Tryz.prog 78 #[.pointer (some ⟨b, 0, none⟩), .pointer (some ⟨wb, 0, none⟩)] w fun e w' => e = .returned (.tuple #[]) ∧ Wo w0 w' wb (bs ++ payTg l, false) ∧ KeptW w w' := by
  have CB := Lib.hid (fun (w' : World) (k : KeptW w w') => ((blkCell (k b _ _ hd (by decide) (by decide)) 15).trans ht : w'.cell? ⟨b, 15, none⟩ = some (.slice A l.length c)))
  have c0 := CB.out w (KeptW.refl _)
  have HW := Lib.hid hw
  have HR := Lib.hid hr
  have HOK := Lib.hid hok
  have F1 : Hid (fits (l.length : Int) 1) := Lib.hid ⟨by omega, fun _ => by omega⟩
  have HLN : Hid (∀ k, (((bs ++ numBytes (l.length : Int) 1) ++ tgsL (l.take k), false) : WS).1.length ≤ 20000) := Lib.hid (fun k => by
    show ((bs ++ numBytes (l.length : Int) 1) ++ tgsL (l.take k)).length ≤ 20000
    rw [List.length_append, List.length_append, numBytes_len, tgsL_len _ (fun t ht => (hok t (List.mem_of_mem_take ht)).2.2), List.length_take]
    omega)
  have HL := Lib.hid hl
  clear hw hd ht hr hok hl
  go_enter Tryz.func78, Tryz.ntmps78
  go_wp2_with fail
  refine (wo_Byte w0 _ wb _ (l.length : Int) HW.out (Nat.le_trans HL.out (by decide))).mono ?_
  rintro e w1 ⟨rfl, hw, hk⟩
  rw [numW_ok _ _ _ F1.out] at hw
  have HW := Lib.hid hw
  have HK := Lib.hid hk
  have c1 := CB.out w1 hk
  clear hw hk c0
  go_wp2_with fail
  clear c1
  go_loopw [18] (fun v wr => ∃ k : Nat, k ≤ l.length ∧ v = .int .i64 k ∧ HD (Wo w0 wr wb ((bs ++ numBytes (l.length : Int) 1) ++ tgsL (l.take k), false)) ∧ HD (KeptW w wr)) (fun v _ => l.length - (intOf v).toNat)
  case atStart => exact ⟨0, Nat.zero_le _, rfl, ⟨by rw [List.take_zero, show tgsL [] = [] from rfl, List.append_nil]; exact HW.out⟩, ⟨HK.out⟩⟩
  case round =>
    obtain ⟨k, hk, rfl, HWK, HKK⟩ := hrel
    obtain ⟨w3, rfl⟩ : ∃ w3, w3 = wr := ⟨_, rfl⟩
    by_cases hlt : k < l.length
    · obtain ⟨⟨v, a, h⟩, hx⟩ : ∃ t, l[k]? = some t := ⟨_, List.getElem?_eq_getElem hlt⟩
      have hr3 := HKK.out.row HR.out (by decide) (by decide)
      obtain ⟨g, cur, rfl, _⟩ := hr3.at_ (by omega)
      obtain ⟨e0, _⟩ := hr3.cell Tg.len k 0 ⟨v, a, h⟩ hx (by omega) (.int .i64 v) rfl
      obtain ⟨e1, _⟩ := hr3.cell Tg.len k 1 ⟨v, a, h⟩ hx (by omega) (.int .i64 a) rfl
      obtain ⟨e2, _⟩ := hr3.cell Tg.len k 2 ⟨v, a, h⟩ hx (by omega) (.string h) rfl
      rw [Nat.add_zero] at e0
      obtain ⟨o1, o2, o3⟩ := HOK.out _ (List.mem_iff_getElem?.2 ⟨k, hx⟩)
      simp only at o1 o2 o3
      have O1 := Lib.hid o1
      have O2 := Lib.hid o2
      have O3 := Lib.hid o3
      have HCAT := Lib.hid (tgsL_at l k _ hx)
      have q0 : (0 : Int) ≤ (k : Int) := by omega
      have q1 : (k : Int) < (l.length : Int) := by omega
      have HLK := Lib.hid (HLN.out k)
      obtain ⟨B, hB⟩ : ∃ B, (bs ++ numBytes (l.length : Int) 1) ++ tgsL (l.take k) = B := ⟨_, rfl⟩
      rw [hB] at HWK HLK
      have HFIN : Hid ((bs ++ numBytes (l.length : Int) 1) ++ tgsL (l.take (k + 1)) = ((B ++ numBytes v 1) ++ numBytes a 2) ++ h.data.toList) := Lib.hid (by
        rw [HCAT.out, ← List.append_assoc, hB, tgL]
        simp only [List.append_assoc])
      clear hx hr3 o1 o2 o3 hB HCAT
      go_wp2_with fail
      clear e0 e1 e2
      obtain ⟨b4, hb4⟩ : ∃ b4, w3.heap.size = b4 := ⟨_, rfl⟩
      obtain ⟨W4, hW4⟩ : ∃ W4, w3.alloc (.cells #[.int .i64 v, .int .i64 a, .string h] 149) = W4 := ⟨_, rfl⟩
      have hob : W4.heap[b4]? = some (.cells #[.int .i64 v, .int .i64 a, .string h] 149 (0, 0)) := by rw [← hW4, ← hb4]; exact blkAlloc w3 _
      have hc4 : Chg (fun _ => False) w3 W4 := by rw [← hW4]; exact (Chg.refl _ w3).alloc _
      simp only [hW4]
      simp only [hb4]
      have HW4 := Lib.hid (HWK.out.kept hc4)
      have HK4 := Lib.hid (HKK.out.trans (KeptW.of_chg hc4))
      have HOB := Lib.hid hob
      clear hW4 hb4 hob hc4
      refine (wo_Byte w0 _ wb _ v HW4.out (Nat.le_trans HLK.out (by decide))).mono ?_
      rintro e w5 ⟨rfl, hw, hk⟩
      rw [numW_ok _ _ _ O1.out] at hw
      have HW5 := Lib.hid hw
      have HK5 := Lib.hid (HK4.out.trans hk)
      have HOB5 := Lib.hid (hk b4 _ _ HOB.out (by decide) (by decide))
      have c1 : w5.cell? ⟨b4, 1, none⟩ = some (.int .i64 a) := blkCell HOB5.out 1
      clear hw hk
      go_wp2_with fail
      clear c1
      refine (wo_Two w0 _ wb _ a HW5.out (Nat.le_trans (show (B ++ numBytes v 1).length ≤ 20001 by rw [List.length_append, numBytes_len]; exact Nat.add_le_add_right HLK.out 1) (by decide))).mono ?_
      rintro e w6 ⟨rfl, hw, hk⟩
      rw [numW_ok _ _ _ O2.out] at hw
      have HW6 := Lib.hid hw
      have HK6 := Lib.hid (HK5.out.trans hk)
      have HOB6 := Lib.hid (hk b4 _ _ HOB5.out (by decide) (by decide))
      have c2 : w6.cell? ⟨b4, 2, none⟩ = some (.string h) := blkCell HOB6.out 2
      clear hw hk
      go_wp2_with fail
      clear c2
      refine (wo_Hash w0 _ wb _ h HW6.out (Nat.le_trans (Nat.add_le_add (show ((B ++ numBytes v 1) ++ numBytes a 2).length ≤ 20003 by rw [List.length_append, List.length_append, numBytes_len, numBytes_len]; exact Nat.add_le_add_right (Nat.add_le_add_right HLK.out 1) 2) (Nat.le_of_eq O3.out)) (by decide))).mono ?_
      rintro e w7 ⟨rfl, hw, hk⟩
      rw [whashW_ok _ _ O3.out, ← HFIN.out] at hw
      have HW7 := Lib.hid hw
      have HK7 := Lib.hid (HK6.out.trans hk)
      clear hw hk
      go_wp2_with fail
      exact ⟨⟨k + 1, by omega, by go_num, ⟨HW7.out⟩, ⟨HK7.out⟩⟩, by simp [intOf]; omega⟩
    · obtain rfl : k = l.length := by omega
      have hw3 := HWK.out
      rw [List.take_length] at hw3
      have HW3 := Lib.hid hw3
      clear hw3
      go_wp2_with fail
      go_end0
      exact ⟨rfl, by rw [payTg, ← List.append_assoc]; exact HW3.out, HKK.out⟩
def setsL (ss : List SetV) : List UInt8 := ss.flatMap fun s => setL s.l s.n
def payRt (o g : ByteArray) (ss : List SetV) : List UInt8 := (setsL ss ++ g.data.toList) ++ (numBytes (o.size : Int) 2 ++ o.data.toList)
theorem setsL_at (l : List SetV) (k : Nat) (s : SetV) (h : l[k]? = some s) : setsL (l.take (k + 1)) = setsL (l.take k) ++ setL s.l s.n := by
  obtain ⟨hk, hx⟩ := List.getElem?_eq_some_iff.1 h
  rw [List.take_succ_eq_append_getElem hk, setsL, List.flatMap_append, hx]
  simp [setsL]
theorem setL_len (s : SetV) (h : qchk s.l s.n = 0) : (setL s.l s.n).length ≤ 514 := by
  obtain ⟨_, h2, _, _, h5⟩ := qchk_ok h
  rw [setL, List.length_append, List.length_append, numBytes_len, numBytes_len, catS_small _ h5]
  omega
theorem setsL_len (l : List SetV) (h : ∀ s ∈ l, qchk s.l s.n = 0) : (setsL l).length ≤ 514 * l.length := by
  induction l with
  | nil => exact Nat.zero_le _
  | cons x l ih =>
    have h1 := ih (fun y hy => h y (List.mem_cons_of_mem _ hy))
    have h2 := setL_len x (h x (List.mem_cons_self ..))
    rw [setsL] at h1 ⊢
    rw [List.flatMap_cons, List.length_append, List.length_cons]
    omega
set_option maxRecDepth 100000 in
set_option maxHeartbeats 2000000 in
theorem layRoot_calls (w0 w : World) (b wb : Nat) (bs : List UInt8) (cs : Array Value) (ss : List SetV) (o g : ByteArray) (hw : Wo w0 w wb (bs, false)) (hd : DAt w b cs) (hi : SetsIn cs ss) (hs : ∀ s ∈ ss, SetOk w s) (hq : ∀ s ∈ ss, qchk s.l s.n = 0)
    (h13 : cs[13]? = some (.string g)) (h14 : cs[14]? = some (.string o)) (hg : g.size = 32) (ho : o.size ≤ 64) (hl : bs.length ≤ 10000) :
    Calls Tryz.prog 74 #[.pointer (some ⟨b, 0, none⟩), .pointer (some ⟨wb, 0, none⟩)] w fun e w' => e = .returned (.tuple #[]) ∧ Wo w0 w' wb (bs ++ payRt o g ss, false) ∧ KeptW w w' := by
  have CS := Lib.hid (fun w b => sets_calls w b)
  have HI := Lib.hid hi
  have HS := Lib.hid hs
  have HQ := Lib.hid hq
  have HW := Lib.hid hw
  have HDD := Lib.hid hd
  have H13 := Lib.hid h13
  have H14 := Lib.hid h14
  have HG := Lib.hid hg
  have HO := Lib.hid ho
  have HLN : Hid (∀ k, (bs ++ setsL (ss.take k)).length ≤ 20000) := Lib.hid (fun k => by
    have h1 := setsL_len (ss.take k) (fun s h => hq s (List.mem_of_mem_take h))
    rw [List.length_take, hi.1] at h1
    rw [List.length_append]
    omega)
  clear hi hs hq hw hd h13 h14 hg ho hl
  obtain ⟨P, hP⟩ : ∃ P, bs ++ payRt o g ss = P := ⟨_, rfl⟩
  rw [hP]
  have HPP := Lib.hid hP
  clear hP
  go_enter Tryz.func74, Tryz.ntmps74
  go_wp2_with fail
  refine (CS.out w b).mono ?_
  rintro e w1 ⟨gb, rfl, hgb, _, hc⟩
  have HGB := Lib.hid hgb
  have HC := Lib.hid hc
  have HW1 := Lib.hid (HW.out.kept hc)
  clear hgb hc
  go_wp2_with fail
  go_loopw [9] (fun v wr => ∃ k : Nat, k ≤ 5 ∧ v = .int .i64 k ∧ HD (Wo w0 wr wb (bs ++ setsL (ss.take k), false)) ∧ HD (KeptW w1 wr)) (fun v _ => 5 - (intOf v).toNat)
  case atStart => exact ⟨0, Nat.zero_le _, rfl, ⟨by rw [List.take_zero, show setsL [] = [] from rfl, List.append_nil]; exact HW1.out⟩, ⟨KeptW.refl _⟩⟩
  case round =>
    obtain ⟨k, hk, rfl, HWK, HKK⟩ := hrel
    obtain ⟨w3, rfl⟩ : ∃ w3, w3 = wr := ⟨_, rfl⟩
    have hd3 : DAt w3 b cs := HKK.out b _ _ (HC.out.obj HDD.out (fun h => h)) (by decide) (by decide)
    have HD3 := Lib.hid hd3
    by_cases hlt : k < 5
    · obtain ⟨s, hx⟩ : ∃ s, ss[k]? = some s := ⟨_, List.getElem?_eq_getElem (by rw [HI.out.1]; exact hlt)⟩
      obtain ⟨i0, i1⟩ := HI.out.2 k s hx
      have hm : s ∈ ss := List.mem_iff_getElem?.2 ⟨k, hx⟩
      have e0 : w3.cell? ⟨gb, k, none⟩ = some (.pointer (some ⟨b, 3 + 2 * k, none⟩)) := by rw [blkCell (HKK.out gb _ _ HGB.out (by decide) (by decide))]; exact setsB_get b k hlt
      have e1 : w3.cell? ⟨b, 3 + 2 * k, none⟩ = some (.slice s.A s.l.length s.c) := by rw [blkCell hd3]; exact i0
      have e2 : w3.cell? ⟨b, 3 + 2 * k + 1, none⟩ = some (.int .i64 s.n) := by rw [blkCell hd3]; exact i1
      obtain ⟨p, hp⟩ : ∃ p, 3 + 2 * k = p := ⟨_, rfl⟩
      rw [hp] at e0 e1 e2
      have CL := Lib.hid (qLay_calls w0 w3 wb _ s.A s.c s.n s.r s.l HWK.out (HKK.out.row (SRow.chg (HS.out s hm) HC.out (fun _ _ h => h)) (by decide) (by decide)) (HQ.out s hm) (Nat.le_trans (HLN.out k) (by decide)))
      have HCAT : Hid ((bs ++ setsL (ss.take k)) ++ setL s.l s.n = bs ++ setsL (ss.take (k + 1))) := Lib.hid (by rw [setsL_at ss k s hx, List.append_assoc])
      rw [HCAT.out] at CL
      have q0 : (0 : Int) ≤ (k : Int) := by omega
      have q1 : (k : Int) < 5 := by omega
      clear hx i0 i1 hm hd3 hp
      go_wp2_with fail
      refine (CL.out).mono ?_
      rintro e w4 ⟨rfl, hw, hk⟩
      have HW4 := Lib.hid hw
      have HK4 := Lib.hid (HKK.out.trans hk)
      clear hw hk
      go_wp2_with fail
      exact ⟨⟨k + 1, by omega, by go_num, ⟨HW4.out⟩, ⟨HK4.out⟩⟩, by simp [intOf]; omega⟩
    · obtain rfl : k = 5 := by omega
      have hw3 := HWK.out
      have hl3 := HLN.out 5
      rw [List.take_of_length_le (Nat.le_of_eq HI.out.1)] at hw3 hl3
      obtain ⟨B, hB⟩ : ∃ B, bs ++ setsL ss = B := ⟨_, rfl⟩
      have HFIN : Hid (P = (B ++ g.data.toList) ++ (numBytes (o.size : Int) 2 ++ o.data.toList)) := Lib.hid (by
        rw [← HPP.out, payRt, ← hB]
        simp only [List.append_assoc])
      rw [hB] at hw3 hl3
      have HW3 := Lib.hid hw3
      have HL3 := Lib.hid hl3
      have c0 : w3.cell? ⟨b, 13, none⟩ = some (.string g) := (blkCell hd3 13).trans H13.out
      clear hw3 hl3 hB hd3
      go_wp2_with fail
      clear c0
      refine (wo_Hash w0 _ wb _ g HW3.out (Nat.le_trans (Nat.add_le_add HL3.out (Nat.le_of_eq HG.out)) (by decide))).mono ?_
      rintro e w4 ⟨rfl, hw, hk⟩
      rw [whashW_ok _ _ HG.out] at hw
      have HW4 := Lib.hid hw
      have HK4 := Lib.hid hk
      have c1 : w4.cell? ⟨b, 14, none⟩ = some (.string o) := (blkCell (hk b _ _ HD3.out (by decide) (by decide)) 14).trans H14.out
      clear hw hk
      go_wp2_with fail
      clear c1
      refine (wo_Text w0 _ wb _ o HW4.out (Nat.le_trans (Nat.add_le_add (show (B ++ g.data.toList).length ≤ 20032 by rw [List.length_append, bs_len, HG.out]; exact Nat.add_le_add_right HL3.out 32) HO.out) (by decide))).mono ?_
      rintro e w5 ⟨rfl, hw, hk⟩
      rw [wtextW_ok _ _ (Nat.le_trans HO.out (by decide)), ← HFIN.out] at hw
      have HW5 := Lib.hid hw
      have HK5 := Lib.hid ((((KeptW.of_chg HC.out).trans HKK.out).trans HK4.out).trans hk)
      clear hw hk
      go_wp2_with fail
      go_end0
      exact ⟨rfl, HW5.out, HK5.out⟩
end Go.Proofs.YtmbipabiagdaaaaGreatDoor

/- TopPatched: the cell: a content read from its bytes. -/
import Derived.Test.YtnhdlclicjmmnaaGreatPfB
import Derived.Test.YtnhdlclicjmmnaaGreatTjX
import Derived.Laws.Cover1
import Derived.Test.YtnhdlclicjmmnaaGreatQt
import Derived.Test.YtnhdlclicjmmnaaGreatPdD
import Derived.Test.YtnhdlclicjmmnaaGreatPeG
namespace Go.Proofs.YtnhdlclicjmmnaaGreat
open Go.RowKit Go.Lib Go.Shelf Go.Maps
theorem drop_flat (M : Cont) (k : Nat) (p : ByteArray × ByteArray) (h : M[k]? = some p) : (M.drop k).flatMap entB = entB p ++ (M.drop (k + 1)).flatMap entB := by
  obtain ⟨hk, hp⟩ := List.getElem?_eq_some_iff.1 h
  rw [List.drop_eq_getElem_cons hk, List.flatMap_cons, hp]
set_option maxRecDepth 100000 in
set_option maxHeartbeats 2000000 in
theorem read_calls (w : World) (M : Cont) (hM : ReadM M) :
    Calls Tryz.prog 89 #[.string (strOf (bytesB M))] w fun e w' => ∃ m, e = .returned (.tuple #[.map (some m), .bool true]) ∧ MapAt w' m M ∧ w.heap.size ≤ m ∧ Chg (fun _ => False) w w' := by
  have GM := Lib.hid hM
  have HL : M.length ≤ 64 := hM.good.len
  have HFL := flat_le M (fun p hp => ⟨(hM.good.names p hp).2, hM.good.texts p hp⟩)
  have HSZ : Hid ((strOf (bytesB M)).size ≤ 140737488351232) := Lib.hid (by
    rw [strOf_size, bytesB, List.length_append, numBytes_len]
    omega)
  have HS : Hid (bytesB M = numBytes (M.length : Int) 2 ++ M.flatMap entB) := Lib.hid rfl
  have HFL := Lib.hid HFL
  have C := Lib.hid (pRead_calls w (strOf (bytesB M)))
  have hmm := @run_makeMap Tryz.prog
  clear hM
  go_enter Tryz.func89, Tryz.ntmps89
  go_wp2_with (go_at_call 83; refine C.out.mono ?_; rintro e w1 ⟨rfl, he⟩; subst he)
  obtain ⟨W0, hW⟩ : ∃ W0, (w.alloc (.cells #[.string (strOf (bytesB M)), .int .i64 0] 159)).alloc (.map #[] 0) = W0 := ⟨_, rfl⟩
  obtain ⟨rb, hrb⟩ : ∃ rb, w.heap.size = rb := ⟨_, rfl⟩
  obtain ⟨lm, hlm⟩ : ∃ lm, rb + 1 = lm := ⟨_, rfl⟩
  have hrd : RdAt W0 159 rb (strOf (bytesB M), 0) := by rw [← hW, ← hrb]; exact blkOld (blkAlloc w _) _
  have hmp : MapAt W0 lm [] := by
    have := MapAt.made (w.alloc (.cells #[.string (strOf (bytesB M)), .int .i64 0] 159))
    rw [hW, World.size_alloc, hrb, hlm] at this
    exact this
  have hc0 : Chg (fun _ => False) w W0 := by rw [← hW]; exact ((Chg.refl _ w).alloc _).alloc _
  have HRB : Hid (w.heap.size ≤ rb) := Lib.hid (Nat.le_of_eq hrb)
  have HLM : Hid (w.heap.size ≤ lm) := Lib.hid (by omega)
  have NE : Hid (lm ≠ rb) := Lib.hid (by omega)
  simp only [hW]
  simp only [hrb]
  simp only [hlm]
  clear hW hrb hlm hmm C
  refine (Two_calls W0 rb _ hrd HSZ.out).mono ?_
  have hn := num_laid (M.length : Int) 2 (M.flatMap entB) ⟨by omega, fun _ => by omega⟩ (by omega) (by omega)
  rw [← HS.out] at hn
  have hn' : numF (strOf (bytesB M), 0) 2 = ((M.length : Int), strOf (M.flatMap entB), 0) := hn
  rw [hn']
  rintro e w1 ⟨rfl, hr1, hg1⟩
  have HR1 := Lib.hid hr1
  have HM1 := Lib.hid (hmp.chg hg1 NE.out)
  have HC1 := Lib.hid (hc0.trans hg1 (fun k e => .inr (by rw [e]; exact HRB.out)))
  have e0 : decide ((64 : Int) < (M.length : Int)) = false := decide_eq_false (by omega)
  clear hr1 hg1 hrd hmp hc0 hn hn'
  go_wp2_with fail
  go_loopw [6, 17] (fun v u wr => ∃ k : Nat, k ≤ M.length ∧ u = .int .i64 k ∧ v = .string (lastM M k) ∧ HD (RdAt wr 159 rb (strOf ((M.drop k).flatMap entB), 0)) ∧ HD (MapAt wr lm (M.take k)) ∧ HD (Chg (fun _ => False) w wr)) (fun _ u _ => M.length - (intOf u).toNat)
  case atStart => exact ⟨0, Nat.zero_le _, rfl, rfl, ⟨by rw [List.drop_zero]; exact HR1.out⟩, ⟨HM1.out⟩, ⟨HC1.out⟩⟩
  case round =>
    obtain ⟨k, hk, rfl, rfl, ⟨HA⟩, ⟨HB⟩, ⟨HC⟩⟩ := hrel
    obtain ⟨w3, rfl⟩ : ∃ w3, w3 = wr := ⟨_, rfl⟩
    have HRK := Lib.hid HA
    have HMK := Lib.hid HB
    have HCK := Lib.hid HC
    clear HA HB HC
    by_cases hlt : k < M.length
    · obtain ⟨p, hp⟩ : ∃ p, M[k]? = some p := ⟨_, List.getElem?_eq_getElem hlt⟩
      have hpm : p ∈ M := List.mem_of_getElem? hp
      have hd := drop_flat M k p hp
      have n1 := (GM.out.good.names p hpm).2
      have n2 := GM.out.good.texts p hpm
      have hle := GM.out.less k p hp
      have hpt := GM.out.put k p hp
      have hlast : lastM M (k + 1) = p.1 := by simp [lastM, List.getD, hp]
      have hsz : ((M.drop k).flatMap entB).length ≤ M.length * 65571 := by
        refine Nat.le_trans ?_ HFL.out
        conv => rhs; rw [← List.take_append_drop k M, List.flatMap_append, List.length_append]
        omega
      have hsz2 : ((numBytes (p.2.size : Int) 2 ++ p.2.data.toList) ++ (M.drop (k + 1)).flatMap entB).length ≤ M.length * 65571 := by
        rw [hd, List.length_append, entB] at hsz
        simp only [List.length_append] at hsz ⊢
        omega
      rw [hd] at HRK
      obtain ⟨R, hR⟩ : ∃ R, (M.drop (k + 1)).flatMap entB = R := ⟨_, rfl⟩
      rw [hR] at HRK hsz2 hd
      rw [hd] at hsz
      have t1 := ent_laid1 p R n1
      have t2 := ent_laid2 p R n2
      have HR := Lib.hid hR
      have C1 := Lib.hid (Text_calls w3 rb _ 32 HRK.out (by rw [strOf_size]; omega))
      have t1' : textF (strOf (entB p ++ R), 0) 32 = (p.1, strOf ((numBytes (p.2.size : Int) 2 ++ p.2.data.toList) ++ R), 0) := t1
      rw [t1'] at C1
      have C2 := Lib.hid (fun w' (h : RdAt w' 159 rb (strOf ((numBytes (p.2.size : Int) 2 ++ p.2.data.toList) ++ R), 0)) => Text_calls w' rb _ 65535 h (by rw [strOf_size]; omega))
      have t2' : textF (strOf ((numBytes (p.2.size : Int) 2 ++ p.2.data.toList) ++ R), 0) 65535 = (p.2, strOf R, 0) := t2
      rw [t2'] at C2
      have HPT := Lib.hid (fun w' (h : MapAt w' lm (M.take k)) => h.put p.1 p.2 (by omega) hpt (by rw [List.length_take]; omega))
      obtain ⟨L, hL⟩ : ∃ L, lastM M k = L := ⟨_, rfl⟩
      rw [hL] at hle ⊢
      have HLA := Lib.hid hlast
      have hle' : (Op.bytesLess p.1.toList L.toList || p.1.toList == L.toList) = false := hle
      obtain ⟨nm, tx⟩ := p
      have q1 : (k : Int) < (M.length : Int) := by omega
      clear hp hpm hd hle hpt hlast hsz hsz2 hR t1 t2 t1' t2' hL HRK n1 n2
      go_wp2_with (first
        | (go_at_call 105; (with_reducible refine C1.out.mono ?_); rintro e w4 ⟨rfl, hr4, hg4⟩; have HM4 := Lib.hid (HMK.out.chg hg4 NE.out); have HC4 := Lib.hid (HCK.out.trans hg4 (fun k e => .inr (by rw [e]; exact HRB.out))); have C3 := Lib.hid (C2.out w4 hr4); clear hr4 hg4)
        | (go_at_call 105; (with_reducible refine C3.out.mono ?_); rintro e w5 ⟨rfl, hr5, hg5⟩; have HM5 := Lib.hid (HM4.out.chg hg5 NE.out); have HC5 := Lib.hid (HC4.out.trans hg5 (fun k e => .inr (by rw [e]; exact HRB.out))); obtain ⟨w6, hpu, hm6, hg6⟩ := HPT.out w5 HM5.out; have HM6 := Lib.hid hm6; have HR6 := Lib.hid (hr5.chg hg6 (fun e => NE.out e.symm)); have HC6 := Lib.hid (HC5.out.trans hg6 (fun k e => .inr (by rw [e]; exact HLM.out))); clear hr5 hg5 hm6 hg6)
        | fail "NOFIT")
      go_roundw
      case rel =>
        have hrr := HR6.out
        rw [← HR.out] at hrr
        exact ⟨k + 1, Nat.succ_le_of_lt hlt, rfl, by rw [HLA.out], ⟨hrr⟩, ⟨HM6.out⟩, ⟨HC6.out⟩⟩
      case measure => simp [intOf]; omega
    · obtain rfl : k = M.length := by omega
      have he := HRK.out
      rw [List.drop_length, List.flatMap_nil] at he
      have hm := HMK.out
      rw [List.take_length] at hm
      have C3 := Lib.hid (End_calls w3 rb _ he)
      have e3 : endF (strOf [], 0) = (strOf [], 0) := by simp [endF, strOf_size]
      rw [e3] at C3
      have HM3 := Lib.hid hm
      have q1 : ¬ ((M.length : Int) < (M.length : Int)) := by omega
      clear he hm e3
      go_wp2_with (go_at_call 106; refine C3.out.mono ?_; rintro e w4 ⟨rfl, _, hg⟩)
      go_ret2
      exact ⟨lm, rfl, HM3.out.chg hg NE.out, HLM.out, HCK.out.trans hg (fun k e => .inr (by rw [e]; exact HRB.out))⟩
end Go.Proofs.YtnhdlclicjmmnaaGreat
/- TopRejects: a Builder of one's own: String. -/
namespace Go.Proofs.YtnhdlclicjmmnaaGreat
open Go.RowKit
theorem Bd.is {w0 w : World} {b : Nat} {bs : List UInt8} (h : Bd w0 w b bs) : Lib.IsBuilder 71 5 w0.heap.size b (Lib.byteCells bs) w := by
  obtain ⟨hb, p, v, r, hp, hc, hr, hk, _⟩ := h
  have hne : v.ownBlock ≠ some b := by
    have := hr.2
    rw [this]
    exact Row.ne hr hc (by decide)
  have hown : w.ownsRow w0.heap.size 5 1 v (Lib.byteCells bs).length (Lib.byteCells bs) := by
    obtain ⟨⟨h1, h2⟩, h3⟩ := hr
    have hl : (Lib.byteCells bs).length = bs.length := by simp [Lib.byteCells]
    rw [hl]
    refine ⟨h1, ?_⟩
    rcases h2 with h2 | ⟨g, cap, cur, rfl, _, h4⟩
    · exact .inl h2
    · exact .inr ⟨g, cap, cur, rfl, hk g h3.symm, h4⟩
  rcases hp with rfl | rfl
  · exact .inl ⟨hb, v, hc, hown, hne⟩
  · exact .inr ⟨hb, v, hc, hown, hne⟩
theorem string_calls (w0 w : World) (b : Nat) (bs : List UInt8) (h : Bd w0 w b bs) :
    Calls Tryz.prog 35 #[.pointer (some ⟨b, 0, none⟩)] w fun e w' => e = .returned (.string (strOf bs)) ∧ Chg (fun _ => False) w0 w' := by
  have hg : Chg (fun _ => False) w0 w := by obtain ⟨_, _, _, _, _, _, _, _, hg⟩ := h; exact hg
  refine (Tryz.Builder_String_any w0.heap.size b bs w h.is hg.size).mono ?_
  rintro e w' ⟨rfl, hb⟩
  exact ⟨rfl, hb.os.trans hg.os, hb.tape.trans hg.tape, hb.output.trans hg.output, Nat.le_trans hg.size hb.size, fun k hk hn => (hb.block k hk).trans (hg.block k hk hn)⟩
theorem Bd.kept {w0 w w1 : World} {b : Nat} {bs : List UInt8} (h : Bd w0 w b bs) (c : Chg (fun _ => False) w w1) : Bd w0 w1 b bs := by
  obtain ⟨hb, p, v, r, hp, hc, hr, hk, hg⟩ := h
  exact ⟨hb, p, v, r, hp, (c.block b (blkLt hc) (fun h => h)).trans hc, hr.chg c (fun _ _ h => h), hk, hg.trans c (fun _ h => .inl h)⟩
theorem Bd.new (w : World) : Bd w (w.alloc (.cells #[.pointer none, .slice none 0 0] 71)) w.heap.size [] :=
  ⟨Nat.le_refl _, _, _, none, .inl rfl, blkAlloc w _, Row.nil _ _, ⟨(fun k (h : none = some k) => nomatch h), (Chg.refl _ w).alloc _⟩⟩
/-- Blocks of other types than a Builder's stay. -/
def KeptB (w w' : World) : Prop := ∀ (k : Nat) (cs : Array Value) (T : TypeId), w.heap[k]? = some (.cells cs T (0, 0)) → T ≠ 71 → T ≠ 5 → w'.heap[k]? = some (.cells cs T (0, 0))
theorem KeptB.refl (w : World) : KeptB w w := fun _ _ _ h _ _ => h
theorem KeptB.trans {w w1 w2 : World} (h : KeptB w w1) (h2 : KeptB w1 w2) : KeptB w w2 := fun k cs T hk a b => h2 k cs T (h k cs T hk a b) a b
theorem copy3 (w0 w : World) (b : Nat) (bs : List UInt8) (h : Bd w0 w b bs) :
    Calls Tryz.prog 81 #[.pointer (some ⟨b, 0, none⟩)] w fun e w' => e = .returned (.tuple #[]) ∧ w0.heap.size ≤ b ∧ ∃ v r, w'.heap[b]? = some (.cells #[.pointer (some ⟨b, 0, none⟩), v] 71 (0, 0)) ∧ Row w' 5 v r bs ∧ (∀ k, r = some k → w0.heap.size ≤ k) ∧ Chg (fun _ => False) w0 w' ∧ KeptB w w' := by
  obtain ⟨hb, p, v, r, rfl | rfl, hc, hr, hk, hg⟩ := h
  · refine (copyFresh w b v hc).mono ?_
    rintro e w' ⟨rfl, rfl⟩
    have g1 : Chg (fun k => k = b) w (w.setCell ⟨b, 0, none⟩ (.pointer (some ⟨b, 0, none⟩))) := (Chg.refl (fun k => k = b) w).setCell (p := ⟨b, 0, none⟩) (.inl rfl) _
    refine ⟨rfl, hb, v, r, blkSet hc 0 _, hr.chg g1 (fun k e hkb => ?_), hk, hg.setCell (.inr hb) _, fun k cs T hk hT _ => g1.obj hk (blkNe hk hc hT)⟩
    subst hkb
    exact hr.ne hc (by decide) e
  · refine (copyUsed w b v hc).mono ?_
    rintro e w' ⟨rfl, rfl⟩
    exact ⟨rfl, hb, v, r, hc, hr, hk, hg, KeptB.refl _⟩
set_option maxRecDepth 100000 in
theorem write3 (w0 w : World) (b : Nat) (bs : List UInt8) (s : ByteArray) (h : Bd w0 w b bs) (hl : bs.length + s.size ≤ 140737488355328) :
    Calls Tryz.prog 54 #[.pointer (some ⟨b, 0, none⟩), .string s] w fun e w' => (∃ u, e = .returned u) ∧ Bd w0 w' b (bs ++ s.data.toList) ∧ KeptB w w' := by
  have H := Lib.hid h
  clear h
  go_enter Tryz.func54, Tryz.ntmps54
  go_wp2_with fail
  refine (copy3 w0 w b bs H.out).mono ?_
  rintro e w1 ⟨rfl, hb, v, r, hc, hr, hk, hg, hkb⟩
  have KB := Lib.hid hkb
  clear hkb
  have HC := Lib.hid hc
  have HK := Lib.hid hk
  have HG := Lib.hid hg
  obtain ⟨A0, m0, q0, rfl⟩ := hr.slice
  have c1 : w1.cell? ⟨b, 1, none⟩ = some (.slice A0 m0 q0) := blkCell hc 1
  have NE := Lib.hid (hr.ne hc (by decide))
  have HR := Lib.hid hr
  clear hc hk hg hr
  go_wp2_with (at_builtin; refine wpList_append_str w1 rfl (.tmp 12) (.tmp 13) 22 9 5 rfl Tryz.underlying22 Tryz.underlying9 info_u8 (.slice A0 m0 q0) r bs s rfl rfl HR.out hl ?_; intro A3 n3 c3 w3 r3 hrow hnext hgrow; have HROW := Lib.hid hrow; have HNEXT := Lib.hid hnext; have HGROW := Lib.hid hgrow; have HB := Lib.hid ((hgrow.block b (blkLt HC.out) (fun e => NE.out e.symm)).trans HC.out); have d1 : w3.cell? ⟨b, 1, none⟩ = some (.slice A0 m0 q0) := blkCell HB.out 1; have f1 := blkFree HB.out 1; clear hrow hnext hgrow)
  go_ret2
  have g3 : Chg (fun k => r = some k) w1 w3 := (Chg.refl _ w1).grown HGROW.out (fun _ hk => .inl hk)
  have NE3 : r3 ≠ some b := HROW.out.ne HB.out (by decide)
  have g4 : Chg (fun k => k = b) w3 (w3.setCell ⟨b, 1, none⟩ (.slice A3 n3 c3)) := (Chg.refl (fun k => k = b) w3).setCell (p := ⟨b, 1, none⟩) (.inl rfl) _
  have hkept : KeptB w1 (w3.setCell ⟨b, 1, none⟩ (.slice A3 n3 c3)) := fun k cs T hk hT1 hT2 => by
    have hkb : k ≠ b := blkNe hk HC.out hT1
    have hkr : r ≠ some k := HR.out.ne hk hT2
    exact g4.obj (g3.obj hk hkr) hkb
  refine ⟨⟨_, rfl⟩, ⟨hb, _, .slice A3 n3 c3, r3, .inr rfl, blkSet HB.out 1 _, HROW.out.chg g4 (fun k e hkb => NE3 (hkb ▸ e)), fun k e => ?_, ((HG.out.trans g3 (fun k hk => .inr (HK.out k hk))).setCell (p := ⟨b, 1, none⟩) (.inr hb) _)⟩, KB.out.trans hkept⟩
  rcases HNEXT.out with h1 | ⟨k', h1, h2⟩
  · exact HK.out k (h1 ▸ e)
  · rw [h1] at e
    obtain rfl : k' = k := by injection e
    exact Nat.le_trans HG.out.size h2
theorem Bd.chg0 {w0 w : World} {b : Nat} {bs : List UInt8} (h : Bd w0 w b bs) : Chg (fun _ => False) w0 w := by
  obtain ⟨_, _, _, _, _, _, _, _, hg⟩ := h
  exact hg
end Go.Proofs.YtnhdlclicjmmnaaGreat
/- TopPatched: the cell: a copy read. -/
namespace Go.Proofs.YtnhdlclicjmmnaaGreat
open Go.RowKit Go.Lib Go.Shelf Go.Maps
theorem fit64_head (num len : Nat) : fit64 (headC num len) = headC num len ++ List.replicate 44 0 := by
  rw [fit64, List.take_append, List.take_of_length_le (by rw [headC_len]; omega), headC_len, List.take_replicate]
  rfl
theorem eight_laid (x : Nat) (r : List UInt8) (hx : x ≤ 1000000000) : numF (eightF (strOf (numBytes (x : Int) 8 ++ r), 0)) 8 = ((x : Int), strOf r, 0) := by
  have e : eightF (strOf (numBytes (x : Int) 8 ++ r), 0) = (strOf (numBytes (x : Int) 8 ++ r), 0) := if_neg (by rw [num_top (x : Int) (by omega) (by omega) r]; exact Bool.false_ne_true)
  rw [e]
  exact num_laid (x : Int) 8 r ⟨by omega, fun h => absurd h (by omega)⟩ (by omega) (by omega)
theorem head_reads (num len : Nat) (hn : num ≤ 1000000000) (hl : len ≤ 1000000) : ∃ y1 y2 : RS, numF (eightF (strOf (fit64 (headC num len)), 0)) 8 = ((num : Int), y1) ∧ numF y1 4 = ((len : Int), y2) ∧ (numF (eightF y2) 8).1 = (num : Int) ∧ y1.1.size ≤ 64 ∧ y2.1.size ≤ 64 := by
  have e : headC num len ++ List.replicate 44 0 = numBytes (num : Int) 8 ++ (numBytes (len : Int) 4 ++ (numBytes (num : Int) 8 ++ List.replicate 44 0)) := by simp [headC]
  rw [fit64_head, e]
  refine ⟨(strOf (numBytes (len : Int) 4 ++ (numBytes (num : Int) 8 ++ List.replicate 44 0)), 0), (strOf (numBytes (num : Int) 8 ++ List.replicate 44 0), 0), eight_laid num _ hn, ?_, ?_, ?_, ?_⟩
  · exact num_laid (len : Int) 4 _ ⟨by omega, fun _ => by omega⟩ (by omega) (by omega)
  · rw [eight_laid num _ hn]
  · rw [strOf_size]; simp [numBytes_len]
  · rw [strOf_size]; simp [numBytes_len]
end Go.Proofs.YtnhdlclicjmmnaaGreat

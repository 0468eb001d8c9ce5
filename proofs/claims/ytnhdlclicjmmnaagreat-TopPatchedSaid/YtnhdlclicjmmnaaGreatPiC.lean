/- TopPatched: delta's Make: ahead of its second loop. -/
import Derived.Test.YtnhdlclicjmmnaaGreatPiB
import Derived.Deep.DeepCutAuto
namespace Go.Proofs.YtnhdlclicjmmnaaGreat
open Go.RowKit Go.Lib Go.Shelf Go.Maps
/-- A writer and the map of places. -/
structure MkL (w0 w : World) (b m : Nat) (old : ByteArray) (l : List UInt8) (c : Nat) : Prop where
  wr : Wo w0 w b (l, false)
  pm : PMap w m old c
  hm : w0.heap.size ≤ m
theorem MkL.made {w0 w : World} {b : Nat} {l : List UInt8} (h : Wo w0 w b (l, false)) (old : ByteArray) : MkL w0 (w.alloc (.map #[] 0)) b w.heap.size old l 0 :=
  ⟨h.kept ((Chg.refl _ w).alloc _), PMap.made w old, h.chg0.size⟩
theorem Wo.map {w0 w w1 : World} {b m : Nat} {s : WS} {es : Array MapEntry} {cl : Nat} (h : Wo w0 w b s) (hm : w.heap[m]? = some (.map es cl)) (h0 : w0.heap.size ≤ m) (g : Chg (fun k => k = m) w w1) : Wo w0 w1 b s := by
  obtain ⟨h1, r, h2, h3, h4⟩ := h
  refine ⟨h1, r, h2.chg g (fun e => ?_) (fun k hk e => ?_), h3, h4.trans g (fun k e => .inr (by rw [e]; exact h0))⟩
  · obtain ⟨A, q, c, hv1, _⟩ := h2
    rw [e, hm] at hv1
    cases hv1
  · obtain ⟨A, q, c, _, hv2⟩ := h2
    obtain ⟨_, cs, hc⟩ := hv2.lt hk
    rw [e, hm] at hc
    cases hc
theorem MkL.put {w0 w : World} {b m c : Nat} {old : ByteArray} {l : List UInt8} (h : MkL w0 w b m old l c) (i : Nat) (hi : i + 16 ≤ old.size) (hos : old.size ≤ 8192) (hc : c ≤ 8192) :
    ∃ w', (Instr.mapUpdate 66 (.map (some m)) (.string (old.extract i (i + 16))) (.int .i64 i)).run Tryz.prog w = .ok () w' ∧ MkL w0 w' b m old l (c + 1) := by
  obtain ⟨w', hr, hp, hg⟩ := h.pm.put i hi hos hc
  obtain ⟨es, cl, hm⟩ := h.pm.obj
  exact ⟨w', hr, h.wr.map hm h.hm hg, hp, h.hm⟩
theorem MkL.box {w0 w : World} {b m c : Nat} {old : ByteArray} {l : List UInt8} (h : MkL w0 w b m old l c) (hc : c ≤ 8192) : MkW w0 (w.alloc (.cells #[.string ⟨#[]⟩] 9)) b w.heap.size m old l [] := by
  obtain ⟨D, h1, h2⟩ := h.pm.chg ((Chg.refl (fun _ => False) w).alloc (.cells #[.string ⟨#[]⟩] 9)) (fun h => h)
  exact ⟨h.wr.kept ((Chg.refl _ w).alloc _), blkAlloc w _, ⟨D, by omega, h2⟩, h.wr.chg0.size⟩
theorem MkW.drewN {w0 w : World} {b X m : Nat} {old : ByteArray} {l rest : List UInt8} (h : MkW w0 w b X m old l rest) (n : Nat) : MkW w0 (w.drewN n) b X m old l rest :=
  ⟨h.wr.kept ((Chg.refl _ w).drewN n), h.rs, h.pm.chg ((Chg.refl (fun _ => False) w).drewN n) (fun h => h), h.hX⟩
/-- What is found: nothing, or n bytes of the old text from f on. -/
def Cand (old text : List UInt8) (a f n : Nat) : Prop := n = 0 ∨ (0 < n ∧ f + n ≤ old.length ∧ a + n ≤ text.length ∧ (old.drop f).take n = (text.drop a).take n)
theorem pre_text {text old : ByteArray} {a : Nat} {b : Bool} (h0 : old.size ≠ 0) (h : b = true → old.size ≤ (text.extract a text.size).size ∧ (text.extract a text.size).extract 0 old.size = old) (e : b = true) :
    a + old.size ≤ text.size ∧ (text.data.toList.drop a).take old.size = old.data.toList := by
  obtain ⟨h1, h2⟩ := h e
  rw [ByteArray.size_extract] at h1
  refine ⟨by omega, ?_⟩
  have h3 := congrArg (fun z : ByteArray => z.data.toList) h2
  simp only [ByteArray.data_extract, Array.toList_extract, List.extract, List.drop_zero, Nat.sub_zero] at h3
  rw [List.take_of_length_le (l := List.drop a text.data.toList) (by rw [List.length_drop, bsize]; exact Nat.le_refl _)] at h3
  exact h3
theorem look_cand {old text : ByteArray} {a j : Nat} (h : a + 16 ≤ text.size) (hj : text.extract a (a + 16) = old.extract j (j + 16)) : (old.data.toList.drop j).take 16 = (text.data.toList.drop a).take 16 := by
  have h3 := congrArg (fun z : ByteArray => z.data.toList) hj
  simp only [ext_copy] at h3
  exact h3.symm
theorem idxI (s : ByteArray) (k : Int) (j : Nat) (x : UInt8) (hk : k = j) (hx : s.data.toList[j]? = some x) (w : World) : (Instr.index 9 (.string s) (.int .i64 k)).run Tryz.prog w = .ok (.int .u8 x.toNat) w := by
  subst hk
  have hx' : s.data[j]? = some x := by rw [← hx, Array.getElem?_toList]
  obtain ⟨h1, h2⟩ := Array.getElem?_eq_some_iff.1 hx'
  have hsz : j < s.size := h1
  rw [run_index_string w 9 s .i64 j Tryz.underlying9, dif_pos ⟨by omega, by omega⟩]
  have : s.data[j] = x := h2
  show Result.ok (Value.int .u8 (s.data[j]).toNat) w = _
  rw [this]
theorem cand_more {old text : List UInt8} {j a n : Nat} {x : UInt8} (h : (old.drop j).take n = (text.drop a).take n) (hx : old[j + n]? = some x) (hy : text[a + n]? = some x) : (old.drop j).take (n + 1) = (text.drop a).take (n + 1) := by
  rw [List.take_add_one, List.take_add_one, h, List.getElem?_drop, List.getElem?_drop, hx, hy]
theorem encs_app (a b : List DOp) : encs (a ++ b) = encs a ++ encs b := by simp [encs]
theorem encs_copy (ops : List DOp) (rest : List UInt8) (f n : Nat) (h : List UInt8) :
    (((h ++ encs ops) ++ (if rest = [] then [] else (DOp.add rest).enc)) ++ numBytes (1 : Int) 1 ++ numBytes (f : Int) 4) ++ numBytes (n : Int) 2 = h ++ encs ((if rest = [] then ops else ops ++ [.add rest]) ++ [.copy f n]) := by
  rw [encs_snoc, copy_enc]
  by_cases hr : rest = []
  · simp [hr]
  · simp [hr, encs_snoc]
theorem ops_len (ops : List DOp) (rest : List UInt8) : (if rest = [] then [] else (DOp.add rest).enc).length ≤ rest.length + 3 := by
  split
  · exact Nat.zero_le _
  · rw [enc_add_len]; omega
/-- What Make answers. -/
def MakeR (old text p : ByteArray) : Prop := ∃ ops : List DOp, p = strOf (hdL old text ++ encs ops) ∧ (∀ o ∈ ops, o.ok old.data.toList) ∧ mades old.data.toList ops = text.data.toList ∧ (encs ops).length ≤ text.size + 6
set_option maxRecDepth 100000 in
set_option maxHeartbeats 4000000 in
theorem dMake_calls (w : World) (old text : ByteArray) (hos : old.size ≤ 8192) (hts : text.size ≤ 8192) :
    Calls Tryz.prog 5 #[.string old, .string text] w fun e w' => ∃ p, e = .returned (.tuple #[.string p, .int .i64 0]) ∧ MakeR old text p ∧ Chg (fun _ => False) w w' := by
  have d0 : decide ((8192 : Int) < (old.size : Int)) = false := decide_eq_false (by omega)
  have d1 : decide ((8192 : Int) < (text.size : Int)) = false := decide_eq_false (by omega)
  have CS := Lib.hid (fun (w : World) (n : Nat) (x : ByteArray) (hx : x.size ≤ 8192) (q : StrsIn w (some ⟨n, 0, none⟩) [x]) => Sum_calls w (some ⟨n, 0, none⟩) 1 1 [x] q rfl (by show x.size + 0 ≤ _; omega))
  have k0 : IntKind.i64.wrap ((old.size : Int) - 16) = (old.size : Int) - 16 := by rw [IntKind.wrap_i64]; omega
  have HW0 := Lib.hid (Wo.new w)
  obtain ⟨B, hB⟩ : ∃ B, w.heap.size = B := ⟨_, rfl⟩
  obtain ⟨W0, hW⟩ : ∃ W0, w.alloc (.cells #[.slice none 0 0, .bool false] 63) = W0 := ⟨_, rfl⟩
  rw [hB, hW] at HW0
  go_enter Tryz.func5, Tryz.ntmps5
  go_wp2_with fail
  try rw [hW]
  try rw [hB]
  clear hW d0 d1
  refine (wo_Four _ _ _ _ (old.size : Int) HW0.out (by show 0 ≤ _; omega)).mono ?_
  rintro e w1 ⟨rfl, hw, _⟩
  rw [numW_ok [] _ 4 (fits4 _ (by omega))] at hw
  have HW1 := Lib.hid hw
  clear hw HW0
  go_wp2_with fail
  refine (CS.out _ _ old hos (strsIn1 _ _)).mono ?_
  rintro e w2 ⟨rfl, hg⟩
  have HW2 := Lib.hid (HW1.out.kept (((Chg.refl (fun _ => False) w1).alloc _).trans hg (fun _ h => h.elim)))
  clear hg HW1
  obtain ⟨l1, hl1⟩ : ∃ l1, [] ++ numBytes (old.size : Int) 4 = l1 := ⟨_, rfl⟩
  have z1 : l1.length = 4 := by rw [← hl1]; simp [numBytes_len]
  rw [hl1] at HW2
  go_wp2_with fail
  refine (wo_Hash _ _ _ _ (sumF [old]) HW2.out (by have := sumF_size [old]; show l1.length + _ ≤ _; omega)).mono ?_
  rintro e w3 ⟨rfl, hw, _⟩
  rw [whashW_ok l1 _ (sumF_size _)] at hw
  have HW3 := Lib.hid hw
  clear hw HW2
  obtain ⟨l2, hl2⟩ : ∃ l2, l1 ++ (sumF [old]).data.toList = l2 := ⟨_, rfl⟩
  have z2 : l2.length = 36 := by rw [← hl2]; rw [List.length_append, bsize, sumF_size, z1]
  rw [hl2] at HW3
  go_wp2_with fail
  refine (wo_Four _ _ _ _ (text.size : Int) HW3.out (by show l2.length ≤ _; omega)).mono ?_
  rintro e w4 ⟨rfl, hw, _⟩
  rw [numW_ok l2 _ 4 (fits4 _ (by omega))] at hw
  have HW4 := Lib.hid hw
  clear hw HW3
  go_wp2_with fail
  refine (CS.out _ _ text hts (strsIn1 _ _)).mono ?_
  rintro e w5 ⟨rfl, hg⟩
  have HW5 := Lib.hid (HW4.out.kept (((Chg.refl (fun _ => False) w4).alloc _).trans hg (fun _ h => h.elim)))
  clear hg HW4
  obtain ⟨l3, hl3⟩ : ∃ l3, l2 ++ numBytes (text.size : Int) 4 = l3 := ⟨_, rfl⟩
  have z3 : l3.length = 40 := by rw [← hl3]; rw [List.length_append, numBytes_len, z2]
  rw [hl3] at HW5
  go_wp2_with fail
  refine (wo_Hash _ _ _ _ (sumF [text]) HW5.out (by have := sumF_size [text]; show l3.length + _ ≤ _; omega)).mono ?_
  rintro e w6 ⟨rfl, hw, _⟩
  rw [whashW_ok l3 _ (sumF_size _)] at hw
  have hl4 : l3 ++ (sumF [text]).data.toList = hdL old text := by
    rw [← hl3, ← hl2, ← hl1]
    simp [hdL]
  rw [hl4] at hw
  have HL := Lib.hid (MkL.made hw old)
  clear hw HW5 hl4 hl3 hl2 hl1 z1 z2 z3 CS
  have hmm := @run_makeMap Tryz.prog
  go_wp2_with fail
  obtain ⟨m, hm⟩ : ∃ m, w6.heap.size = m := ⟨_, rfl⟩
  obtain ⟨W7, hW7⟩ : ∃ W7, w6.alloc (.map #[] 0) = W7 := ⟨_, rfl⟩
  rw [hm, hW7] at HL
  try simp only [hm]
  try simp only [hW7]
  clear hm hW7 hmm k0
  go_loopw [8] (fun v wr => ∃ (c : Nat) (i : Int), v = .int .i64 i ∧ HD ((c : Int) + i + 16 = old.size ∧ c ≤ 8192 ∧ -20 ≤ i) ∧ HD (MkL w wr B m old (hdL old text) c)) (fun v _ => (intOf v + 20).toNat)
  case atStart => exact ⟨0, _, rfl, ⟨by omega, by omega, by omega⟩, ⟨HL.out⟩⟩
  case round =>
    obtain ⟨c, i, rfl, HI, HM⟩ := hrel
    obtain ⟨w8, rfl⟩ : ∃ w8, w8 = wr := ⟨_, rfl⟩
    obtain ⟨i1, i2, i3⟩ := HI.out
    by_cases hi : 0 ≤ i
    · obtain ⟨j, rfl⟩ := Int.eq_ofNat_of_zero_le hi
      obtain ⟨w9, hput, hm9⟩ := HM.out.put j (by omega) hos (by omega)
      have H9 := Lib.hid hm9
      clear hm9
      have k1 : IntKind.i64.wrap ((j : Int) + 16) = (j : Int) + 16 := by rw [IntKind.wrap_i64]; omega
      have k2 : IntKind.i64.wrap ((j : Int) - 1) = (j : Int) - 1 := by rw [IntKind.wrap_i64]; omega
      have q0 : (0 : Int) ≤ (j : Int) + 16 := by omega
      have q1 : (j : Int) ≤ (j : Int) + 16 := by omega
      have q2 : (j : Int) + 16 ≤ (old.size : Int) := by omega
      have q3 : ((j : Int) + 16).toNat = j + 16 := by omega
      go_wp2_with fail
      exact ⟨⟨c + 1, _, rfl, ⟨by omega, by omega, by omega⟩, ⟨H9.out⟩⟩, by simp [intOf]; omega⟩
    · have dn : i < 0 := by omega
      go_wp2_with fail
      have HK := Lib.hid (HM.out.box i2)
      obtain ⟨X, hX⟩ : ∃ X, w8.heap.size = X := ⟨_, rfl⟩
      obtain ⟨W9, hW9⟩ : ∃ W9, w8.alloc (.cells #[.string ⟨#[]⟩] 9) = W9 := ⟨_, rfl⟩
      rw [hX, hW9] at HK
      simp only [hX]
      simp only [hW9]
      clear hX hW9 HM HI i1 i2 i3 hi dn
      go_loopw [11] (fun v wr => ∃ (ops : List DOp) (rest : List UInt8) (a : Nat), v = .int .i64 a ∧ HD (Mk old.data.toList text.data.toList ops rest a) ∧ HD (MkW w wr B X m old (hdL old text ++ encs ops) rest)) (fun v _ => text.size - (intOf v).toNat)
      case atStart => exact ⟨[], [], 0, rfl, ⟨Mk.start _ _⟩, ⟨by rw [show encs [] = [] from rfl, List.append_nil]; exact HK.out⟩⟩
      case round =>
        obtain ⟨ops, rest, a, rfl, HMk, HM⟩ := hrel
        obtain ⟨wa, rfl⟩ : ∃ wa, wa = wr := ⟨_, rfl⟩
        have htl : text.data.toList.length = text.size := bsize text
        have hol : old.data.toList.length = old.size := bsize old
        have hal : a ≤ text.size := by rw [← htl]; exact HMk.out.le
        have hel : (encs ops).length ≤ text.size + 6 := by rw [← htl]; exact HMk.out.enc_le
        have hrl : rest.length ≤ 65535 := by have := HMk.out.rest_le; omega
        have hll : (hdL old text ++ encs ops).length ≤ 100000 := by rw [List.length_append, hdL_len]; omega
        by_cases hlt : a < text.size
        · have q0 : (0 : Int) ≤ (a : Int) := by omega
          have q1 : (a : Int) ≤ (text.size : Int) := by omega
          go_upto_region 18 with fail
          go_cut [66] (fun v wx => ∃ b : Bool, v = .bool b ∧ HD (b = true → 0 < old.size ∧ a + old.size ≤ text.size ∧ (text.data.toList.drop a).take old.size = old.data.toList) ∧ wx = wa)
          case first =>
            by_cases ho : old.size = 0
            · have e0 := wstr_eq ho
              go_wp2_with fail
              go_meet
              exact ⟨false, rfl, ⟨fun e => nomatch e⟩, rfl⟩
            · have e0 := wstr_ne ho
              have C := Lib.hid (hp_calls wa (text.extract a text.size) old)
              go_wp2_with fail
              (with_reducible refine C.out.mono ?_)
              rintro e w2 ⟨b, rfl, rfl, hb⟩
              have HB := Lib.hid (pre_text ho hb)
              clear hb
              go_wp2_with fail
              go_meet
              exact ⟨b, rfl, ⟨fun e => ⟨by omega, HB.out e⟩⟩, rfl⟩
          case rest =>
            obtain ⟨b, rfl, HB, rfl⟩ := hcut
            go_upto_if 66 with fail
            go_cut [12, 13] (fun f n wx => ∃ f' n' : Nat, f = .int .i64 f' ∧ n = .int .i64 n' ∧ HD (Cand old.data.toList text.data.toList a f' n') ∧ HD (MkW w wx B X m old (hdL old text ++ encs ops) rest))
            case first =>
              cases b
              · have k1 : IntKind.i64.wrap ((a : Int) + 16) = (a : Int) + 16 := by rw [IntKind.wrap_i64]; omega
                by_cases h16 : a + 16 ≤ text.size
                · have q2 : (0 : Int) ≤ (a : Int) + 16 := by omega
                  have q3 : (a : Int) ≤ (a : Int) + 16 := by omega
                  have q4 : (a : Int) + 16 ≤ (text.size : Int) := by omega
                  have q5 : ((a : Int) + 16).toNat = a + 16 := by omega
                  obtain ⟨iv, bb, hlook, hbb⟩ := HM.out.pm.look (text.extract a (a + 16)) (by rw [ByteArray.size_extract]; omega)
                  have HBB := Lib.hid hbb
                  clear hbb
                  cases bb
                  · go_wp2_with fail
                    go_meet
                    exact ⟨0, 0, rfl, rfl, ⟨.inl rfl⟩, ⟨HM.out⟩⟩
                  · obtain ⟨j, rfl, hj, hjt⟩ := HBB.out rfl
                    have HJ := Lib.hid (look_cand (by omega) hjt)
                    clear hjt
                    go_wp2_with fail
                    clear hlook q2 q3 q4 q5 k1
                    go_loopw [13] (fun v wr => ∃ n : Nat, v = .int .i64 n ∧ HD (0 < n ∧ j + n ≤ old.size ∧ a + n ≤ text.size ∧ (old.data.toList.drop j).take n = (text.data.toList.drop a).take n) ∧ HD (MkW w wr B X m old (hdL old text ++ encs ops) rest)) (fun v _ => text.size - (intOf v).toNat)
                    case atStart => exact ⟨16, rfl, ⟨by omega, hj, h16, HJ.out⟩, ⟨HM.out⟩⟩
                    case round =>
                      obtain ⟨n, rfl, HN, HMn⟩ := hrel
                      obtain ⟨wb, rfl⟩ : ∃ wb, wb = wr := ⟨_, rfl⟩
                      obtain ⟨n1, n2, n3, n4⟩ := HN.out
                      have r1 : IntKind.i64.wrap ((j : Int) + n) = (j : Int) + n := by rw [IntKind.wrap_i64]; omega
                      have r2 : IntKind.i64.wrap ((a : Int) + n) = (a : Int) + n := by rw [IntKind.wrap_i64]; omega
                      have r3 : IntKind.i64.wrap ((n : Int) + 1) = ((n + 1 : Nat) : Int) := by rw [IntKind.wrap_i64]; omega
                      have HN4 := Lib.hid n4
                      clear n4
                      by_cases h1 : j + n < old.size
                      · have d1 : decide ((j : Int) + n < (old.size : Int)) = true := decide_eq_true (by omega)
                        by_cases h2 : a + n < text.size
                        · have d2 : decide ((a : Int) + n < (text.size : Int)) = true := decide_eq_true (by omega)
                          obtain ⟨x, hx⟩ : ∃ x, old.data.toList[j + n]? = some x := ⟨_, List.getElem?_eq_getElem (by rw [hol]; exact h1)⟩
                          obtain ⟨y, hy⟩ : ∃ y, text.data.toList[a + n]? = some y := ⟨_, List.getElem?_eq_getElem (by rw [htl]; exact h2)⟩
                          have I1 := idxI old ((j : Int) + n) (j + n) x (by omega) hx
                          have I2 := idxI text ((a : Int) + n) (a + n) y (by omega) hy
                          by_cases hxy : x = y
                          · subst hxy
                            have HE := Lib.hid (cand_more HN4.out hx hy)
                            have d3 : ((x.toNat : Int) == (x.toNat : Int)) = true := by simp
                            clear hx hy
                            go_wp2_with fail
                            go_quiet (fail)
                            go_wp2_with fail
                            exact ⟨⟨n + 1, by go_num, ⟨by omega, by omega, by omega, HE.out⟩, ⟨HMn.out.drewN _⟩⟩, by simp [intOf]; omega⟩
                          · have d3 : ((x.toNat : Int) == (y.toNat : Int)) = false := beq_eq_false_iff_ne.2 (fun e => hxy (UInt8.toNat_inj.1 (by omega)))
                            clear hx hy
                            go_wp2_with fail
                            go_quiet (fail)
                            go_wp2_with fail
                            go_meet
                            exact ⟨j, n, rfl, rfl, ⟨.inr ⟨n1, by omega, by omega, HN4.out⟩⟩, ⟨HMn.out.drewN _⟩⟩
                        · have d2 : decide ((a : Int) + n < (text.size : Int)) = false := decide_eq_false (by omega)
                          go_wp2_with fail
                          go_quiet (fail)
                          go_wp2_with fail
                          go_meet
                          exact ⟨j, n, rfl, rfl, ⟨.inr ⟨n1, by omega, by omega, HN4.out⟩⟩, ⟨HMn.out.drewN _⟩⟩
                      · have d1 : decide ((j : Int) + n < (old.size : Int)) = false := decide_eq_false (by omega)
                        go_wp2_with fail
                        go_quiet (fail)
                        go_wp2_with fail
                        go_meet
                        exact ⟨j, n, rfl, rfl, ⟨.inr ⟨n1, by omega, by omega, HN4.out⟩⟩, ⟨HMn.out.drewN _⟩⟩
                · have d1 : decide ((a : Int) + 16 ≤ (text.size : Int)) = false := decide_eq_false (by omega)
                  go_wp2_with fail
                  go_meet
                  exact ⟨0, 0, rfl, rfl, ⟨.inl rfl⟩, ⟨HM.out⟩⟩
              · go_wp2_with fail
                go_meet
                obtain ⟨b1, b2, b3⟩ := HB.out trivial
                exact ⟨0, old.size, rfl, rfl, ⟨.inr ⟨b1, by omega, by omega, by rw [b3, List.drop_zero]; exact List.take_of_length_le (by omega)⟩⟩, ⟨HM.out⟩⟩
            case rest =>
              obtain ⟨f, n, rfl, rfl, HC, HM⟩ := hcut
              obtain ⟨wb, rfl⟩ : ∃ wb, wb = wc := ⟨_, rfl⟩
              go_upto_region 26 with fail
              go_cut [122] (fun v wx => v = .bool (decide (n < 10 ∧ n ≠ text.size)) ∧ wx = wb)
              case first =>
                by_cases h1 : n < 10
                · have d1 : decide ((n : Int) < 10) = true := decide_eq_true (by omega)
                  by_cases h2 : n = text.size
                  · subst h2
                    go_wp2_with fail
                    go_meet
                    exact ⟨by simp, rfl⟩
                  · have d2 : ((n : Int) == (text.size : Int)) = false := beq_eq_false_iff_ne.2 (by omega)
                    go_wp2_with fail
                    go_meet
                    exact ⟨by simp [h1, h2]; omega, rfl⟩
                · have d1 : decide ((n : Int) < 10) = false := decide_eq_false (by omega)
                  go_wp2_with fail
                  go_meet
                  exact ⟨by simp [h1], rfl⟩
              case rest =>
                obtain ⟨rfl, rfl⟩ := hcut
                obtain ⟨wb, rfl⟩ : ∃ wb, wb = wc := ⟨_, rfl⟩
                by_cases hb : n < 10 ∧ n ≠ text.size
                · have hd : decide (n < 10 ∧ n ≠ text.size) = true := decide_eq_true hb
                  rw [hd]
                  have k1 : IntKind.i64.wrap ((a : Int) + 1) = (a : Int) + 1 := by rw [IntKind.wrap_i64]; omega
                  have e0 : wb.cell? ⟨X, 0, none⟩ = some (.string (strOf rest)) := blkCell HM.out.rs 0
                  have f0 := blkFree HM.out.rs 0
                  have hx1 : strOf (rest ++ (text.data.toList.drop a).take 1) = strOf rest ++ text.extract a (a + 1) := by
                    apply strOf_ext
                    simp [strOf, ext_copy]
                  have HP := Lib.hid (HM.out.put (rest ++ (text.data.toList.drop a).take 1)).drew
                  rw [hx1] at HP
                  have ha : (strOf rest).size + (text.extract a (a + 1)).size ≤ 9223372036854775807 := by rw [strOf_size, ByteArray.size_extract]; omega
                  have K4 := (fun w' => run_string_add_sum (P := Tryz.prog) w' (strOf rest) (text.extract a (a + 1)) ha)
                  have q2 : (0 : Int) ≤ (a : Int) + 1 := by omega
                  have q3 : (a : Int) ≤ (a : Int) + 1 := by omega
                  have q4 : (a : Int) + 1 ≤ (text.size : Int) := by omega
                  have q5 : ((a : Int) + 1).toNat = a + 1 := by omega
                  have HB := Lib.hid (HMk.out.byte (by omega))
                  clear hx1 ha HC
                  go_wp2_with fail
                  go_region
                  go_wp2_with fail
                  exact ⟨⟨ops, rest ++ (text.data.toList.drop a).take 1, a + 1, by go_num, ⟨HB.out⟩, ⟨HP.out⟩⟩, by simp [intOf]; omega⟩
                · have hd : decide (n < 10 ∧ n ≠ text.size) = false := decide_eq_false hb
                  rw [hd]
                  have hn : 10 ≤ n ∨ n = text.size := by omega
                  obtain ⟨c1, c2, c3, c4⟩ : 0 < n ∧ f + n ≤ old.data.toList.length ∧ a + n ≤ text.data.toList.length ∧ (old.data.toList.drop f).take n = (text.data.toList.drop a).take n := by
                    rcases HC.out with h0 | h0
                    · omega
                    · exact h0
                  have HK := Lib.hid (HMk.out.copy c1 (by rw [htl]; exact hn) c2 c3 c4)
                  have HEN := Lib.hid (encs_copy ops rest f n)
                  have k1 : IntKind.i64.wrap ((a : Int) + n) = ((a + n : Nat) : Int) := by rw [IntKind.wrap_i64]; omega
                  have hll2 := ops_len ops rest
                  clear c4 HC
                  go_wp2_with fail
                  refine (addC_calls w wb B X m old _ rest HM.out hrl (by omega)).mono ?_
                  rintro e w2 ⟨rfl, h2⟩
                  have H2 := Lib.hid h2
                  clear h2
                  obtain ⟨L, hL⟩ : ∃ L, (hdL old text ++ encs ops) ++ (if rest = [] then [] else (DOp.add rest).enc) = L := ⟨_, rfl⟩
                  have hLl : L.length ≤ 200000 := by
                    rw [← hL, List.length_append]
                    omega
                  rw [hL] at H2
                  go_wp2_with fail
                  refine (mk_Byte H2.out 1 ⟨by decide, fun _ => by decide⟩ (by omega)).mono ?_
                  rintro e w3 ⟨rfl, h3⟩
                  have H3 := Lib.hid h3
                  clear h3
                  go_wp2_with fail
                  refine (mk_Four H3.out (f : Int) (fits4 f (by omega)) (by rw [List.length_append, numBytes_len]; omega)).mono ?_
                  rintro e w4 ⟨rfl, h4⟩
                  have H4 := Lib.hid h4
                  clear h4
                  go_wp2_with fail
                  refine (mk_Two H4.out (n : Int) (fits2n n (by omega)) (by rw [List.length_append, List.length_append, numBytes_len, numBytes_len]; omega)).mono ?_
                  rintro e w5 ⟨rfl, h5⟩
                  rw [← hL, HEN.out (hdL old text)] at h5
                  have H5 := Lib.hid h5
                  clear h5
                  go_wp2_with fail
                  exact ⟨⟨_, [], a + n, by go_num, ⟨HK.out⟩, ⟨H5.out⟩⟩, by simp [intOf]; omega⟩
        · obtain rfl : a = text.size := by omega
          have q1 : ¬ ((text.size : Int) < (text.size : Int)) := by omega
          go_wp2_with fail
          refine (addC_calls w wa B X m old _ rest HM.out hrl (by omega)).mono ?_
          rintro e w2 ⟨rfl, h2⟩
          obtain ⟨ops', o1, o2, o3, o4⟩ := Mk.whole (show Mk old.data.toList text.data.toList ops rest text.data.toList.length by rw [htl]; exact HMk.out)
          have hw := h2.wr
          rw [List.append_assoc, ← o1] at hw
          have HW := Lib.hid hw
          have HR : Hid (MakeR old text (strOf (hdL old text ++ encs ops'))) := Lib.hid ⟨ops', rfl, o2, o3, by rw [← htl]; exact o4⟩
          clear h2 hw o1 o2 o3 o4
          obtain ⟨L, hL⟩ : ∃ L, hdL old text ++ encs ops' = L := ⟨_, rfl⟩
          rw [hL] at HW HR
          clear hL
          have CB := Lib.hid (wo_Bytes w w2 B _ HW.out)
          rw [show wbT (L, false) = strOf L from rfl, show wbE (L, false) = 0 from rfl] at CB
          go_wp2_with fail
          refine CB.out.mono ?_
          rintro e w3 ⟨rfl, rfl⟩
          go_wp2_with fail
          go_ret2
          exact ⟨_, rfl, HR.out, HW.out.chg0⟩
end Go.Proofs.YtnhdlclicjmmnaaGreat

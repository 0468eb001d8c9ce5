/- TopRejects: a writer of one's own; bill.Leaf, bill.Bytes. -/
import Derived.Test.YtnhdlclicjmmnaaGreatTjV
import Derived.Test.YtnhdlclicjmmnaaGreatPdD
import Derived.Test.YtnhdlclicjmmnaaGreatWr
import Derived.Test.YtnhdlclicjmmnaaGreatHb
namespace Go.Proofs.YtnhdlclicjmmnaaGreat
open Go.RowKit Go.Lib Go.Shelf
/-- A writer of one's own, laid behind w0. -/
def Wo (w0 w : World) (b : Nat) (s : WS) : Prop :=
  w0.heap.size ≤ b ∧ ∃ r, WrAt w 63 b r s.1 s.2 ∧ (∀ k, r = some k → w0.heap.size ≤ k) ∧ Chg (fun _ => False) w0 w
/-- Blocks of other types than a Writer's stay. -/
def KeptW (w w' : World) : Prop := ∀ (k : Nat) (cs : Array Value) (T : TypeId), w.heap[k]? = some (.cells cs T (0, 0)) → T ≠ 63 → T ≠ 5 → w'.heap[k]? = some (.cells cs T (0, 0))
theorem KeptW.refl (w : World) : KeptW w w := fun _ _ _ h _ _ => h
theorem KeptW.trans {w w1 w2 : World} (h : KeptW w w1) (h2 : KeptW w1 w2) : KeptW w w2 := fun k cs T hk a b => h2 k cs T (h k cs T hk a b) a b
theorem KeptW.of_chg {w w1 : World} (c : Chg (fun _ => False) w w1) : KeptW w w1 := fun _ _ _ hk _ _ => c.obj hk (fun h => h)
theorem KeptW.row {α : Type} {E : TypeId} {sz : Nat} {enc : α → List Value} {w w1 : World} {v : Value} {r : Option Nat} {l : List α} (h : KeptW w w1) (hr : SRow E sz enc w v r l) (h1 : E ≠ 63) (h2 : E ≠ 5) : SRow E sz enc w1 v r l :=
  hr.step fun k hk => by
    obtain ⟨_, cs, hc⟩ := hr.lt hk
    rw [hc]
    exact h k cs E hc h1 h2
theorem Wo.new (w : World) : Wo w (w.alloc (.cells #[.slice none 0 0, .bool false] 63)) w.heap.size ([], false) :=
  ⟨Nat.le_refl _, none, ⟨none, 0, 0, blkAlloc w _, Row.nil _ _⟩, (fun k (h : none = some k) => nomatch h), (Chg.refl _ w).alloc _⟩
theorem Wo.chg0 {w0 w : World} {b : Nat} {s : WS} (h : Wo w0 w b s) : Chg (fun _ => False) w0 w := by
  obtain ⟨_, _, _, _, h⟩ := h
  exact h
theorem Wo.kept {w0 w w1 : World} {b : Nat} {s : WS} (h : Wo w0 w b s) (c : Chg (fun _ => False) w w1) : Wo w0 w1 b s := by
  obtain ⟨h1, r, h2, h3, h4⟩ := h
  exact ⟨h1, r, h2.chg c (fun h => h) (fun _ _ h => h), h3, h4.trans c (fun _ h => h.elim)⟩
theorem wo_step {w0 w w' : World} {b : Nat} {r r' : Option Nat} {s s' : WS} (h1 : w0.heap.size ≤ b) (h2 : WrAt w 63 b r s.1 s.2) (h3 : ∀ k, r = some k → w0.heap.size ≤ k) (h4 : Chg (fun _ => False) w0 w)
    (h : WrAt w' 63 b r' s'.1 s'.2) (hn : Next w r r') (hg : Chg (fun k => k = b ∨ r = some k) w w') : Wo w0 w' b s' ∧ KeptW w w' := by
  refine ⟨⟨h1, r', h, fun k e => ?_, h4.trans hg (fun k hk => .inr ?_)⟩, fun k cs T hk hT hU => hg.obj hk (fun hh => ?_)⟩
  · rcases hn with e1 | ⟨k', e1, e2⟩
    · exact h3 k (e1 ▸ e)
    · rw [e1] at e
      obtain rfl : k' = k := by injection e
      exact Nat.le_trans h4.size e2
  · rcases hk with rfl | hk
    · exact h1
    · exact h3 k hk
  · obtain ⟨A, m, c, hv1, hv2⟩ := h2
    rcases hh with rfl | hh
    · exact blkNe hk hv1 hT rfl
    · exact hv2.ne hk hU hh
theorem wo_Byte (w0 w : World) (b : Nat) (s : WS) (x : Int) (h : Wo w0 w b s) (hl : s.1.length ≤ 140737488355000) :
    Calls Tryz.prog 28 #[.pointer (some ⟨b, 0, none⟩), .int .i64 x] w fun e w' => e = .returned (.tuple #[]) ∧ Wo w0 w' b (numW s x 1) ∧ KeptW w w' := by
  obtain ⟨h1, r, h2, h3, h4⟩ := h
  exact (wByte_calls w b r s x h2 (by omega)).mono fun e w' ⟨he, r', h, hn, hg⟩ => ⟨he, wo_step h1 h2 h3 h4 h hn hg⟩
theorem wo_Two (w0 w : World) (b : Nat) (s : WS) (x : Int) (h : Wo w0 w b s) (hl : s.1.length ≤ 140737488355000) :
    Calls Tryz.prog 31 #[.pointer (some ⟨b, 0, none⟩), .int .i64 x] w fun e w' => e = .returned (.tuple #[]) ∧ Wo w0 w' b (numW s x 2) ∧ KeptW w w' := by
  obtain ⟨h1, r, h2, h3, h4⟩ := h
  exact (wTwo_calls w b r s x h2 (by omega)).mono fun e w' ⟨he, r', h, hn, hg⟩ => ⟨he, wo_step h1 h2 h3 h4 h hn hg⟩
theorem wo_Four (w0 w : World) (b : Nat) (s : WS) (x : Int) (h : Wo w0 w b s) (hl : s.1.length ≤ 140737488355000) :
    Calls Tryz.prog 25 #[.pointer (some ⟨b, 0, none⟩), .int .i64 x] w fun e w' => e = .returned (.tuple #[]) ∧ Wo w0 w' b (numW s x 4) ∧ KeptW w w' := by
  obtain ⟨h1, r, h2, h3, h4⟩ := h
  exact (wFour_calls w b r s x h2 (by omega)).mono fun e w' ⟨he, r', h, hn, hg⟩ => ⟨he, wo_step h1 h2 h3 h4 h hn hg⟩
theorem wo_Eight (w0 w : World) (b : Nat) (s : WS) (x : Int) (h : Wo w0 w b s) (hl : s.1.length ≤ 140737488355000) :
    Calls Tryz.prog 98 #[.pointer (some ⟨b, 0, none⟩), .int .i64 x] w fun e w' => e = .returned (.tuple #[]) ∧ Wo w0 w' b (numW s x 8) ∧ KeptW w w' := by
  obtain ⟨h1, r, h2, h3, h4⟩ := h
  exact (wEight_calls w b r s x h2 (by omega)).mono fun e w' ⟨he, r', h, hn, hg⟩ => ⟨he, wo_step h1 h2 h3 h4 h hn hg⟩
theorem wo_Text (w0 w : World) (b : Nat) (s : WS) (t : ByteArray) (h : Wo w0 w b s) (hl : s.1.length + t.size ≤ 140737488355000) :
    Calls Tryz.prog 29 #[.pointer (some ⟨b, 0, none⟩), .string t] w fun e w' => e = .returned (.tuple #[]) ∧ Wo w0 w' b (wtextW s t) ∧ KeptW w w' := by
  obtain ⟨h1, r, h2, h3, h4⟩ := h
  exact (wText_calls w b r s t h2 (by omega)).mono fun e w' ⟨he, r', h, hn, hg⟩ => ⟨he, wo_step h1 h2 h3 h4 h hn hg⟩
theorem wo_Hash (w0 w : World) (b : Nat) (s : WS) (t : ByteArray) (h : Wo w0 w b s) (hl : s.1.length + t.size ≤ 140737488355000) :
    Calls Tryz.prog 26 #[.pointer (some ⟨b, 0, none⟩), .string t] w fun e w' => e = .returned (.tuple #[]) ∧ Wo w0 w' b (whashW s t) ∧ KeptW w w' := by
  obtain ⟨h1, r, h2, h3, h4⟩ := h
  exact (wHash_calls w b r s t h2 (by omega)).mono fun e w' ⟨he, r', h, hn, hg⟩ => ⟨he, wo_step h1 h2 h3 h4 h hn hg⟩
/-- What a writer hands back. -/
def wbT (s : WS) : ByteArray := if s.2 = true then ⟨#[]⟩ else strOf s.1
def wbE (s : WS) : Int := if s.2 = true then 1 else 0
theorem wo_Bytes (w0 w : World) (b : Nat) (s : WS) (h : Wo w0 w b s) :
    Calls Tryz.prog 32 #[.pointer (some ⟨b, 0, none⟩)] w fun e w' => e = .returned (.tuple #[.string (wbT s), .int .i64 (wbE s)]) ∧ w = w' := by
  obtain ⟨h1, r, h2, h3, h4⟩ := h
  obtain ⟨l, sp⟩ := s
  cases sp
  · exact wBytes_ok w b r l h2
  · exact wBytes_bad w b r l h2
theorem whashW_len (s : WS) (t : ByteArray) : (whashW s t).1.length = s.1.length + t.size := by
  show (s.1 ++ t.data.toList).length = _
  rw [List.length_append]
  exact congrArg _ Array.length_toList
def leafW (v s c : Int) (h t : ByteArray) : WS := whashW (whashW (numW (numW (numW ([], false) v 1) s 4) c 2) h) t
def leafT (v s c : Int) (h t : ByteArray) (l : List ByteArray) : ByteArray := if checkE v s c h t l = 0 then wbT (leafW v s c h t) else ⟨#[]⟩
def leafE (v s c : Int) (h t : ByteArray) (l : List ByteArray) : Int := if checkE v s c h t l = 0 then wbE (leafW v s c h t) else checkE v s c h t l
set_option maxRecDepth 100000 in
set_option maxHeartbeats 2000000 in
theorem Leaf_calls (w : World) (v s c : Int) (h t : ByteArray) (A : Option Addr) (cap : Nat) (r : Option Nat) (l : List ByteArray) (hr : TRow w (.slice A l.length cap) r l) (hl : l.length ≤ 1048576) (hs : ∀ x ∈ l, x.size ≤ 1048576) (hh : h.size ≤ 1048576) (ht : t.size ≤ 1048576) :
    Calls Tryz.prog 70 #[.agg #[.int .i64 v, .int .i64 s, .int .i64 c, .string h, .string t, .slice A l.length cap]] w fun e w' => e = .returned (.tuple #[.string (leafT v s c h t l), .int .i64 (leafE v s c h t l)]) ∧ Chg (fun _ => False) w w' := by
  have HR := Lib.hid hr
  have HL := Lib.hid hl
  have HS := Lib.hid hs
  clear hr hs
  have HT : Hid (leafT v s c h t l = if checkE v s c h t l = 0 then wbT (leafW v s c h t) else ⟨#[]⟩) := Lib.hid rfl
  have HE : Hid (leafE v s c h t l = if checkE v s c h t l = 0 then wbE (leafW v s c h t) else checkE v s c h t l) := Lib.hid rfl
  obtain ⟨T, hT⟩ : ∃ T, leafT v s c h t l = T := ⟨_, rfl⟩
  obtain ⟨E, hE⟩ : ∃ E, leafE v s c h t l = E := ⟨_, rfl⟩
  rw [hT] at HT ⊢
  rw [hE] at HE ⊢
  clear hT hE
  go_enter Tryz.func70, Tryz.ntmps70
  go_wp2_with fail
  obtain ⟨b, hb⟩ : ∃ b, w.heap.size = b := ⟨_, rfl⟩
  obtain ⟨W0, hW⟩ : ∃ W0, w.alloc (.cells #[.int .i64 v, .int .i64 s, .int .i64 c, .string h, .string t, .slice A l.length cap] 27) = W0 := ⟨_, rfl⟩
  have hob : W0.heap[b]? = some (.cells #[.int .i64 v, .int .i64 s, .int .i64 c, .string h, .string t, .slice A l.length cap] 27 (0, 0)) := by rw [← hW, ← hb]; exact blkAlloc w _
  have HCH : Hid (Chg (fun _ => False) w W0) := Lib.hid (by rw [← hW]; exact (Chg.refl _ w).alloc _)
  have C1 := Lib.hid (Check_calls W0 v s c h t A cap r l (SRow.chg HR.out HCH.out (fun _ _ h => h)) HL.out HS.out)
  obtain ⟨K, hK⟩ : ∃ K, checkE v s c h t l = K := ⟨_, rfl⟩
  rw [hK] at C1 HT HE
  simp only [hW]
  simp only [hb]
  have HOB := Lib.hid hob
  clear hW hb hob hK
  refine (C1.out).mono ?_
  rintro e w1 ⟨rfl, hc⟩
  have HB := Lib.hid (hc.obj HOB.out (fun h => h))
  have D := Lib.hid (HCH.out.trans hc (fun _ h => h.elim))
  clear hc C1 HOB
  by_cases hk : K = 0
  · subst hk
    have hT := HT.out
    have hE := HE.out
    rw [if_pos rfl] at hT hE
    have HT := Lib.hid hT
    have HE := Lib.hid hE
    clear hT hE
    have HW0 := Lib.hid (Wo.new w1)
    have HB1 := Lib.hid (blkOld HB.out (.cells #[.slice none 0 0, .bool false] 63))
    have c0 : (w1.alloc (.cells #[.slice none 0 0, .bool false] 63)).cell? ⟨b, 0, none⟩ = some (.int .i64 v) := blkCell HB1.out 0
    obtain ⟨B, hB⟩ : ∃ B, w1.heap.size = B := ⟨_, rfl⟩
    rw [hB] at HW0
    go_wp2_with fail
    try simp only [hB]
    clear c0 hB
    refine (wo_Byte _ _ _ _ v HW0.out (by show 0 ≤ _; omega)).mono ?_
    rintro e w2 ⟨rfl, hw, hk⟩
    have HB2 := Lib.hid (hk b _ _ HB1.out (by decide) (by decide))
    have c1 : w2.cell? ⟨b, 1, none⟩ = some (.int .i64 s) := blkCell HB2.out 1
    have z1 := numW_len ([], false) v 1
    have HF : Hid (leafW v s c h t = whashW (whashW (numW (numW (numW ([], false) v 1) s 4) c 2) h) t) := Lib.hid rfl
    obtain ⟨s1, hs1⟩ : ∃ s1, numW ([], false) v 1 = s1 := ⟨_, rfl⟩
    rw [hs1] at hw z1 HF
    have HW := Lib.hid hw
    clear hw hk hs1 HB1 HW0
    go_wp2_with fail
    clear c1
    refine (wo_Four _ _ _ _ s HW.out (by simp only [List.length_nil] at z1; omega)).mono ?_
    rintro e w3 ⟨rfl, hw, hk⟩
    have HB3 := Lib.hid (hk b _ _ HB2.out (by decide) (by decide))
    have c2 : w3.cell? ⟨b, 2, none⟩ = some (.int .i64 c) := blkCell HB3.out 2
    have z2 := numW_len s1 s 4
    obtain ⟨s2, hs2⟩ : ∃ s2, numW s1 s 4 = s2 := ⟨_, rfl⟩
    rw [hs2] at hw z2 HF
    have HW := Lib.hid hw
    clear hw hk hs2 HB2
    go_wp2_with fail
    clear c2
    simp only [List.length_nil] at z1
    refine (wo_Two _ _ _ _ c HW.out (by omega)).mono ?_
    rintro e w4 ⟨rfl, hw, hk⟩
    have HB4 := Lib.hid (hk b _ _ HB3.out (by decide) (by decide))
    have c3 : w4.cell? ⟨b, 3, none⟩ = some (.string h) := blkCell HB4.out 3
    have z3 := numW_len s2 c 2
    obtain ⟨s3, hs3⟩ : ∃ s3, numW s2 c 2 = s3 := ⟨_, rfl⟩
    rw [hs3] at hw z3 HF
    have HW := Lib.hid hw
    clear hw hk hs3 HB3
    go_wp2_with fail
    clear c3
    refine (wo_Hash _ _ _ _ h HW.out (by omega)).mono ?_
    rintro e w5 ⟨rfl, hw, hk⟩
    have HB5 := Lib.hid (hk b _ _ HB4.out (by decide) (by decide))
    have c4 : w5.cell? ⟨b, 4, none⟩ = some (.string t) := blkCell HB5.out 4
    have z4 := whashW_len s3 h
    obtain ⟨s4, hs4⟩ : ∃ s4, whashW s3 h = s4 := ⟨_, rfl⟩
    rw [hs4] at hw z4 HF
    have HW := Lib.hid hw
    clear hw hk hs4 HB4
    go_wp2_with fail
    clear c4
    refine (wo_Hash _ _ _ _ t HW.out (by omega)).mono ?_
    rintro e w6 ⟨rfl, hw, hk⟩
    obtain ⟨s5, hs5⟩ : ∃ s5, whashW s4 t = s5 := ⟨_, rfl⟩
    rw [hs5] at hw HF
    rw [HF.out] at HT HE
    have HG := Lib.hid hw.chg0
    have CB := Lib.hid (wo_Bytes _ _ _ _ hw)
    clear hw hk hs5
    obtain ⟨X, hX⟩ : ∃ X, wbT s5 = X := ⟨_, rfl⟩
    obtain ⟨Y, hY⟩ : ∃ Y, wbE s5 = Y := ⟨_, rfl⟩
    rw [hX] at CB HT
    rw [hY] at CB HE
    clear hX hY
    go_wp2_with (go_at_call 32; refine (CB.out).mono ?_; rintro e w7 ⟨rfl, rfl⟩)
    go_ret2
    exact ⟨by rw [HT.out, HE.out]; rfl, D.out.trans HG.out (fun _ h => h.elim)⟩
  · have hk1 : (K == 0) = false := by simpa using hk
    have hT := HT.out
    have hE := HE.out
    rw [if_neg hk] at hT hE
    have HT := Lib.hid hT
    have HE := Lib.hid hE
    clear hT hE hk
    go_wp2_with fail
    go_ret2
    exact ⟨by rw [HT.out, HE.out]; rfl, D.out⟩
theorem inter_nil : ∀ (l : List (List UInt8)), (l.intersperse []).flatten = l.flatten
  | [] => rfl
  | [x] => rfl
  | x :: y :: r => by
    rw [List.intersperse_cons_cons, List.flatten_cons, List.flatten_cons, inter_nil (y :: r), List.flatten_cons]
    rfl
theorem joinB_nil (l : List ByteArray) : joinB l ⟨#[]⟩ = strU (catS l) := by
  show strU (Lib.join (l.map (·.data.toList)) []) = _
  rw [Lib.join, List.intercalate, inter_nil, catS, List.flatMap]
theorem tot_small (l : List ByteArray) (hs : ∀ x ∈ l, x.size ≤ 1048576) : tot l ≤ l.length * 1048576 := by
  induction l with
  | nil => exact Nat.zero_le _
  | cons x l ih =>
    have h1 := ih (fun y hy => hs y (List.mem_cons_of_mem _ hy))
    have h2 := hs x (List.mem_cons_self ..)
    simp only [tot, List.map_cons, List.sum_cons, List.length_cons] at h1 ⊢
    omega
theorem joinT_calls (w : World) (A : Option Addr) (c : Nat) (r : Option Nat) (l : List ByteArray) (h : TRow w (.slice A l.length c) r l) (hl : l.length ≤ 1048576) (hs : ∀ x ∈ l, x.size ≤ 1048576) :
    Calls Tryz.prog 71 #[.slice A l.length c, .string ⟨#[]⟩] w fun e w' => e = .returned (.string (strU (catS l))) ∧ Chg (fun _ => False) w w' := by
  match l, h, hl, hs with
  | [], h, hl, hs =>
    refine (Tryz.strings_Join_none A c ⟨#[]⟩ w).mono ?_
    rintro e w' ⟨rfl, rfl⟩
    exact ⟨rfl, Chg.refl _ _⟩
  | x :: l, h, hl, hs =>
    obtain ⟨g, cur, rfl, hg, hn, hc, hm, hh, hz, ht⟩ := h.at_ (by simp)
    have hj := joinB_nil (x :: l)
    have hsz : (strU (catS (x :: l))).size = tot (x :: l) := catS_len _
    have hts := tot_small (x :: l) hs
    refine (Tryz.strings_Join g 0 c (x :: l) ⟨#[]⟩ w (fun j y hy => by rw [Nat.zero_add]; exact TRow.cell h j y hy) (blkLt hh) (by omega) hc (by show (joinB (x :: l) ⟨#[]⟩).size ≤ _; rw [hj, hsz]; omega)).mono ?_
    rintro e w' ⟨rfl, hw⟩
    exact ⟨by rw [← hj]; rfl, Chg.of_below hw _⟩
def billT (v s c : Int) (h t : ByteArray) (l : List ByteArray) : ByteArray := if leafE v s c h t l = 0 then leafT v s c h t l ++ strU (catS l) else ⟨#[]⟩
theorem leafT_size (v s c : Int) (h t : ByteArray) (l : List ByteArray) (hh : h.size ≤ 1048576) (ht : t.size ≤ 1048576) : (leafT v s c h t l).size ≤ 2097160 := by
  unfold leafT
  split
  · unfold wbT
    split
    · exact Nat.zero_le _
    · have a1 := numW_len ([], false) v 1
      have a2 := numW_len (numW ([], false) v 1) s 4
      have a3 := numW_len (numW (numW ([], false) v 1) s 4) c 2
      have a4 := whashW_len (numW (numW (numW ([], false) v 1) s 4) c 2) h
      have a5 := whashW_len (whashW (numW (numW (numW ([], false) v 1) s 4) c 2) h) t
      have a6 : (strOf (leafW v s c h t).1).size = (leafW v s c h t).1.length := strU_size _
      rw [a6, leafW, a5, a4]
      simp only [List.length_nil] at a1
      omega
  · exact Nat.zero_le _
set_option maxRecDepth 100000 in
set_option maxHeartbeats 2000000 in
theorem Bytes_calls (w : World) (v s c : Int) (h t : ByteArray) (A : Option Addr) (cap : Nat) (r : Option Nat) (l : List ByteArray) (hr : TRow w (.slice A l.length cap) r l) (hl : l.length ≤ 1048576) (hs : ∀ x ∈ l, x.size ≤ 1048576) (hh : h.size ≤ 1048576) (ht : t.size ≤ 1048576) :
    Calls Tryz.prog 38 #[.agg #[.int .i64 v, .int .i64 s, .int .i64 c, .string h, .string t, .slice A l.length cap]] w fun e w' => e = .returned (.tuple #[.string (billT v s c h t l), .int .i64 (leafE v s c h t l)]) ∧ Chg (fun _ => False) w w' := by
  have HR := Lib.hid hr
  have HL := Lib.hid hl
  have HS := Lib.hid hs
  have hz := leafT_size v s c h t l hh ht
  have hq : (strU (catS l)).size ≤ l.length * 1048576 := by
    rw [strU_size, catS_len]
    exact tot_small l hs
  clear hr hs
  have HT : Hid (billT v s c h t l = if leafE v s c h t l = 0 then leafT v s c h t l ++ strU (catS l) else ⟨#[]⟩) := Lib.hid rfl
  obtain ⟨T, hT⟩ : ∃ T, billT v s c h t l = T := ⟨_, rfl⟩
  rw [hT] at HT ⊢
  clear hT
  have C1 := Lib.hid (fun W0 hr => Leaf_calls W0 v s c h t A cap r l hr HL.out HS.out hh ht)
  obtain ⟨K, hK⟩ : ∃ K, leafE v s c h t l = K := ⟨_, rfl⟩
  obtain ⟨X, hX⟩ : ∃ X, leafT v s c h t l = X := ⟨_, rfl⟩
  obtain ⟨Y, hY⟩ : ∃ Y, strU (catS l) = Y := ⟨_, rfl⟩
  rw [hK] at C1 HT ⊢
  rw [hX] at C1 HT hz
  rw [hY] at HT hq
  have HY := Lib.hid hY
  clear hK hX hY
  go_enter Tryz.func38, Tryz.ntmps38
  go_wp2_with fail
  obtain ⟨b, hb⟩ : ∃ b, w.heap.size = b := ⟨_, rfl⟩
  obtain ⟨W0, hW⟩ : ∃ W0, w.alloc (.cells #[.int .i64 v, .int .i64 s, .int .i64 c, .string h, .string t, .slice A l.length cap] 27) = W0 := ⟨_, rfl⟩
  have hob : W0.heap[b]? = some (.cells #[.int .i64 v, .int .i64 s, .int .i64 c, .string h, .string t, .slice A l.length cap] 27 (0, 0)) := by rw [← hW, ← hb]; exact blkAlloc w _
  have HCH : Hid (Chg (fun _ => False) w W0) := Lib.hid (by rw [← hW]; exact (Chg.refl _ w).alloc _)
  simp only [hW]
  simp only [hb]
  have HOB := Lib.hid hob
  clear hW hb hob
  refine (C1.out _ (SRow.chg HR.out HCH.out (fun _ _ h => h))).mono ?_
  rintro e w1 ⟨rfl, hc⟩
  have HB := Lib.hid (hc.obj HOB.out (fun h => h))
  have D := Lib.hid (HCH.out.trans hc (fun _ h => h.elim))
  clear hc C1 HOB
  by_cases hk : K = 0
  · subst hk
    have hT := HT.out
    rw [if_pos rfl] at hT
    have HT := Lib.hid hT
    have C2 := Lib.hid (joinT_calls w1 A cap r l (SRow.chg HR.out D.out (fun _ _ h => h)) HL.out HS.out)
    rw [HY.out] at C2
    have c5 : w1.cell? ⟨b, 5, none⟩ = some (.slice A l.length cap) := blkCell HB.out 5
    have kc := fun w' => run_string_add_sum (P := Tryz.prog) w' X Y (by omega)
    clear hT
    go_wp2_with (go_at_call 71; refine (C2.out).mono ?_; rintro e w2 ⟨rfl, hc⟩; have G := Lib.hid (D.out.trans hc (fun _ h => h.elim)); clear hc)
    go_ret2
    exact ⟨by rw [HT.out]; rfl, G.out⟩
  · have hk1 : (K == 0) = false := by simpa using hk
    have hT := HT.out
    rw [if_neg hk] at hT
    have HT := Lib.hid hT
    clear hT hk
    go_wp2_with fail
    go_ret2
    exact ⟨by rw [HT.out]; rfl, D.out⟩
end Go.Proofs.YtnhdlclicjmmnaaGreat
/- What the readers compute, in plain Lean: a state is the bytes that are left and the first error. -/
namespace Go.Proofs.YtnhdlclicjmmnaaGreat
open Go.RowKit

/-- A reader's state: what is left, the first error. -/
abbrev RS := ByteArray × Int

def failF (x : RS) (e : Int) : RS := if x.2 = 0 then (x.1, e) else x
theorem failF_err {x : RS} {e : Int} (h : x.2 ≠ 0) : failF x e = x := by simp [failF, h]
theorem failF_ok {s : ByteArray} {e : Int} : failF (s, 0) e = (s, e) := by simp [failF]
theorem failF_left (x : RS) (e : Int) : (failF x e).1 = x.1 := by unfold failF; split <;> rfl
def rawF (x : RS) (n : Int) : ByteArray × RS :=
  if x.2 ≠ 0 then (⟨#[]⟩, x) else if n < 0 then (⟨#[]⟩, x.1, 1) else if (x.1.size : Int) < n then (⟨#[]⟩, x.1, 2)
  else (x.1.extract 0 n.toNat, x.1.extract n.toNat x.1.size, 0)
theorem rawF_err {x : RS} {n : Int} (h : x.2 ≠ 0) : rawF x n = (⟨#[]⟩, x) := by simp [rawF, h]
theorem rawF_neg {s : ByteArray} {n : Int} (h : n < 0) : rawF (s, 0) n = (⟨#[]⟩, s, 1) := by simp [rawF, h]
theorem rawF_short {s : ByteArray} {n : Int} (h : (s.size : Int) < n) : rawF (s, 0) n = (⟨#[]⟩, s, 2) := by
  have : ¬ n < 0 := by omega
  simp [rawF, h, this]
theorem rawF_ok {s : ByteArray} {n : Int} (h0 : 0 ≤ n) (h : n ≤ s.size) : rawF (s, 0) n = (s.extract 0 n.toNat, s.extract n.toNat s.size, 0) := by
  have h1 : ¬ n < 0 := by omega
  have h2 : ¬ (s.size : Int) < n := by omega
  simp [rawF, h1, h2]
theorem rawF_size (x : RS) (n : Int) : (rawF x n).1.size ≤ x.1.size ∧ (rawF x n).2.1.size ≤ x.1.size := by
  unfold rawF
  split
  · exact ⟨Nat.zero_le _, Nat.le_refl _⟩
  · split
    · exact ⟨Nat.zero_le _, Nat.le_refl _⟩
    · split
      · exact ⟨Nat.zero_le _, Nat.le_refl _⟩
      · simp only [ByteArray.size_extract]
        omega

/-- One byte more of a number, as the machine has it. -/
def orStep (y : Int) (c : UInt8) : Int := bits .or .i64 (wrap64 (y * 256)) (wrap64 (c.toNat : Int))
def beF (l : List UInt8) : Int := l.foldl orStep 0
theorem beF_snoc (l : List UInt8) (c : UInt8) : beF (l ++ [c]) = orStep (beF l) c := by simp [beF]
theorem beF_take (s : ByteArray) (k : Nat) (h : k < s.size) : beF (s.data.toList.take (k + 1)) = orStep (beF (s.data.toList.take k)) s.data[k] := by
  rw [List.take_succ_eq_append_getElem (by simpa using h), beF_snoc]; rfl
theorem take_all (s : ByteArray) (k : Nat) (h : ¬ k < s.size) : s.data.toList.take k = s.data.toList :=
  List.take_of_length_le (by rw [Array.length_toList]; exact Nat.not_lt.1 h)
def numF (x : RS) (n : Int) : Int × RS := (beF (rawF x n).1.data.toList, (rawF x n).2)
theorem numF_size (x : RS) (n : Int) : (numF x n).2.1.size ≤ x.1.size := (rawF_size x n).2

/-- Is the first of eight bytes too great for a number of this kind? -/
def topB (x : RS) : Bool := if h : 8 ≤ x.1.size then decide (128 ≤ (x.1[0]'(by omega)).toNat) else false
def eightF (x : RS) : RS := if topB x = true then failF x 3 else x
theorem eightF_left (x : RS) : (eightF x).1 = x.1 := by unfold eightF; split <;> simp [failF_left]
def textF (x : RS) (most : Int) : ByteArray × RS :=
  if x.2 ≠ 0 then (⟨#[]⟩, x) else
    let y := numF x 2
    let z := if (if most < 0 then 0 else most) < y.1 then failF y.2 4 else y.2
    let t := rawF z y.1
    (t.1, if t.2.2 ≠ 0 then (x.1, t.2.2) else t.2)
theorem textF_err {x : RS} {m : Int} (h : x.2 ≠ 0) : textF x m = (⟨#[]⟩, x) := by unfold textF; rw [if_pos h]
theorem textF_ok {s : ByteArray} {m n : Int} {x1 x2 : RS} {t : ByteArray × RS} (hn : (numF (s, 0) 2).1 = n) (h1 : (numF (s, 0) 2).2 = x1) (h2 : (if (if m < 0 then 0 else m) < n then failF x1 4 else x1) = x2) (ht : rawF x2 n = t) :
    textF (s, 0) m = (t.1, if t.2.2 ≠ 0 then (s, t.2.2) else t.2) := by
  unfold textF
  simp only [hn, h1, h2, ht, ne_eq, not_true_eq_false, if_false]
def endF (x : RS) : RS := if x.1.size > 0 then failF x 3 else x
end Go.Proofs.YtnhdlclicjmmnaaGreat

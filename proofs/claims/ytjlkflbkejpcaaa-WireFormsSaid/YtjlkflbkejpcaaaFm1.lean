/- LayAsk and LayReply of wire and of ostlerref19. -/
import Derived.Test.YtjlkflbkejpcaaaFmF
namespace Go.Proofs.Ytjlkflbkejpcaaa
open Go.RowKit

theorem kNumber {W w : World} {b : Nat} {s : WS} {m : Nat} (h : Made 28 W w b s m) (x : Int) (n : Nat) (hn : n ≤ 8) (hx : x ≤ 9223372036854775807) (hm : m + 8 ≤ 140737488355328) :
    Calls Try.prog 59 #[.pointer (some ⟨b, 0, none⟩), .int .i64 x, .int .i64 n] w fun e w' => e = .returned (.tuple #[]) ∧ Made 28 W w' b (numW s x n) (m + n) := by
  obtain ⟨r, h1, h2⟩ := h.ex
  have hl := h.le
  refine (rwNumber_calls w b r s x n h1 hn hx (by omega)).mono ?_
  rintro e w' ⟨rfl, r', h3, h4, h5⟩
  exact ⟨rfl, h.step h2 h3 h4 h5 (by have := numW_len s x n; omega)⟩
theorem kText {W w : World} {b : Nat} {s : WS} {m : Nat} (h : Made 28 W w b s m) (t : ByteArray) (hm : m + t.size + 8 ≤ 140737488355328) :
    Calls Try.prog 62 #[.pointer (some ⟨b, 0, none⟩), .string t] w fun e w' => e = .returned (.tuple #[]) ∧ Made 28 W w' b (rtextW s t) (m + t.size + 2) := by
  obtain ⟨r, h1, h2⟩ := h.ex
  have hl := h.le
  refine (rwText_calls w b r s t h1 (by omega)).mono ?_
  rintro e w' ⟨rfl, r', h3, h4, h5⟩
  exact ⟨rfl, h.step h2 h3 h4 h5 (by have := rtextW_len s t; omega)⟩
theorem kBytes {W w : World} {b : Nat} {s : WS} {m : Nat} (h : Made 28 W w b s m) :
    Calls Try.prog 14 #[.pointer (some ⟨b, 0, none⟩)] w fun e w' => e = .returned (.tuple #[.string (bytesF s).1, .int .i64 (bytesF s).2]) ∧ w = w' := by
  obtain ⟨r, h1, _⟩ := h.ex
  have := rwBytes_calls w b r s h1
  rwa [bytesV_F] at this
theorem mBytesF {W w : World} {b : Nat} {s : WS} {m : Nat} (h : Made 26 W w b s m) :
    Calls Try.prog 13 #[.pointer (some ⟨b, 0, none⟩)] w fun e w' => e = .returned (.tuple #[.string (bytesF s).1, .int .i64 (bytesF s).2]) ∧ w = w' := by
  have := mBytes_calls h
  rwa [bytesV_F] at this
/-- A text that is too long spoils both writers. -/
theorem text_same (s : WS) (t : ByteArray) : bytesF (rtextW s t) = bytesF (wtextW s t) := by
  unfold rtextW
  split
  · rename_i h
    have h2 : ¬ fits t.size 2 := fun h3 => by have := (fits_size t).1 h3; omega
    unfold bytesF wtextW numW
    rw [if_neg h2]
    rfl
  · rfl
theorem text_short (s : WS) {t : ByteArray} (h : t.size ≤ 65535) : rtextW s t = wtextW s t := by
  unfold rtextW
  rw [if_neg (by omega)]
theorem LayAsk_bad (w : World) (id fr most : Int) (path : ByteArray) (hp : path.size = 0 ∨ 64 < path.size) :
    Calls Try.prog 47 #[.agg #[.int .i64 id, .string path, .int .i64 fr, .int .i64 most]] w fun e w' => e = .returned (.tuple #[.string ⟨#[]⟩, .int .i64 1]) ∧ Chg (fun _ => False) w w' := by
  rcases hp with h | h
  · have he := str_eq h
    clear h
    go_enter Try.func47, Try.ntmps47
    go_wp2
    go_ret2
    exact ⟨rfl, (Chg.refl _ w).alloc _⟩
  · have he := str_ne (s := path) (by omega)
    have hgt : (64 : Int) < (path.size : Int) := by omega
    clear h
    go_enter Try.func47, Try.ntmps47
    go_wp2
    go_ret2
    exact ⟨rfl, (Chg.refl _ w).alloc _⟩
theorem LayAsk_all (w : World) (a : AskV) :
    Calls Try.prog 47 #[a.val] w fun e w' => e = .returned (.tuple #[.string (layAskF a).1, .int .i64 (layAskF a).2]) ∧ Chg (fun _ => False) w w' := by
  obtain ⟨id, path, fr, most⟩ := a
  by_cases h : path.size = 0 ∨ 64 < path.size
  · have h1 : layAskF ⟨id, path, fr, most⟩ = (⟨#[]⟩, 1) := by
      unfold layAskF
      exact if_pos h
    rw [h1]
    exact LayAsk_bad w id fr most path h
  · have h1 : layAskF ⟨id, path, fr, most⟩ = bytesF (askW id path fr most) := by
      unfold layAskF
      exact if_neg h
    rw [h1]
    have h2 := LayAsk_calls w id fr most path (by omega) (by omega)
    rw [bytesV_F] at h2
    exact h2
theorem str_full {s : ByteArray} (h : (s.toList == []) = false) : s.toList.isEmpty = false := by
  cases h2 : s.toList with
  | nil => rw [h2] at h; simp at h
  | cons => rfl
theorem str_void {s : ByteArray} (h : (s.toList == []) = true) : s.toList.isEmpty = true := by
  cases h2 : s.toList with
  | nil => rfl
  | cons => rw [h2] at h; simp at h
theorem fair_calls (w : World) (r : RepV) :
    Calls Try.prog 72 #[r.val] w fun e w' => e = .returned (.bool (decide r.fair)) ∧ Chg (fun _ => False) w w' := by
  obtain ⟨id, er, size, data⟩ := r
  simp only [RepV.val]
  by_cases h1 : er = 0
  · have hd : decide (RepV.fair ⟨id, er, size, data⟩) = true := decide_eq_true (.inl h1)
    rw [hd]
    have hb : (er == 0) = true := by simp [h1]
    clear h1 hd
    go_enter Try.func72, Try.ntmps72
    go_wp2
    go_ret
    exact ⟨rfl, (Chg.refl _ w).alloc _⟩
  · have hb : (er == 0) = false := by simp [h1]
    by_cases h2 : size = 0
    · have hs : (size == 0) = true := by simp [h2]
      by_cases h3 : data.size = 0
      · have hd : decide (RepV.fair ⟨id, er, size, data⟩) = true := decide_eq_true (.inr ⟨h2, h3⟩)
        rw [hd]
        have he := str_eq h3
        clear h1 h2 h3 hd
        go_enter Try.func72, Try.ntmps72
        go_wp2
        go_ret
        exact ⟨rfl, (Chg.refl _ w).alloc _⟩
      · have hd : decide (RepV.fair ⟨id, er, size, data⟩) = false := decide_eq_false (fun h => h.elim h1 (fun h => h3 h.2))
        rw [hd]
        have he := str_ne h3
        clear h1 h2 h3 hd
        go_enter Try.func72, Try.ntmps72
        go_wp2
        go_ret
        exact ⟨rfl, (Chg.refl _ w).alloc _⟩
    · have hs : (size == 0) = false := by simp [h2]
      have hd : decide (RepV.fair ⟨id, er, size, data⟩) = false := decide_eq_false (fun h => h.elim h1 (fun h => h2 h.1))
      rw [hd]
      clear h1 h2 hd
      go_enter Try.func72, Try.ntmps72
      go_wp2
      go_ret
      exact ⟨rfl, (Chg.refl _ w).alloc _⟩
theorem fair_yes (w : World) (r : RepV) (h : r.fair) : Calls Try.prog 72 #[r.val] w fun e w' => e = .returned (.bool true) ∧ Chg (fun _ => False) w w' := by
  have := fair_calls w r
  rwa [decide_eq_true h] at this
theorem fair_no (w : World) (r : RepV) (h : ¬ r.fair) : Calls Try.prog 72 #[r.val] w fun e w' => e = .returned (.bool false) ∧ Chg (fun _ => False) w w' := by
  have := fair_calls w r
  rwa [decide_eq_false h] at this

set_option maxRecDepth 100000 in
theorem rLayAsk_bad (w : World) (id fr most : Int) (path : ByteArray) (hp : path.size = 0 ∨ 64 < path.size) (hs : path.size ≤ 140737488351232) (h1 : id ≤ 9223372036854775807) (h2 : fr ≤ 9223372036854775807) (h3 : most ≤ 9223372036854775807) :
    Calls Try.prog 48 #[.agg #[.int .i64 id, .string path, .int .i64 fr, .int .i64 most]] w fun e w' => e = .returned (.tuple #[.string ⟨#[]⟩, .int .i64 1]) ∧ Chg (fun _ => False) w w' := by
  have HX : Hid ((w.alloc (.cells #[.int .i64 id, .string path, .int .i64 fr, .int .i64 most] 75)).heap[w.heap.size]? = some (.cells #[.int .i64 id, .string path, .int .i64 fr, .int .i64 most] 75 (0, 0))) := Lib.hid (blkAlloc w _)
  have HM := Lib.hid (Made.fresh 28 (w.alloc (.cells #[.int .i64 id, .string path, .int .i64 fr, .int .i64 most] 75)) (w.heap.size + 1) (by simp))
  rcases hp with h | h
  · have hlt : (path.size : Int) < 1 := by omega
    clear h
    go_enter Try.func48, Try.ntmps48
    go_wp2_with fail
    refine (kNumber (W := (w.alloc (.cells #[.int .i64 id, .string path, .int .i64 fr, .int .i64 most] 75))) (by exact HM.out) 1 1 (by omega) (by omega) (by omega)).mono ?_
    rintro e wn ⟨rfl, hm⟩
    have HM := Lib.hid hm
    clear hm
    try clear x0 x1 x2 x3
    obtain ⟨x0, x1, x2, x3⟩ := askCells (HM.out.ch.obj HX.out (fun h => h))
    go_wp2_with fail
    refine (kNumber (W := (w.alloc (.cells #[.int .i64 id, .string path, .int .i64 fr, .int .i64 most] 75))) (by exact HM.out) id 2 (by omega) h1 (by omega)).mono ?_
    rintro e wn ⟨rfl, hm⟩
    have HM := Lib.hid hm
    clear hm
    try clear x0 x1 x2 x3
    obtain ⟨x0, x1, x2, x3⟩ := askCells (HM.out.ch.obj HX.out (fun h => h))
    go_wp2_with fail
    refine (kText (W := (w.alloc (.cells #[.int .i64 id, .string path, .int .i64 fr, .int .i64 most] 75))) (by exact HM.out) path (by omega)).mono ?_
    rintro e wn ⟨rfl, hm⟩
    have HM := Lib.hid hm
    clear hm
    try clear x0 x1 x2 x3
    obtain ⟨x0, x1, x2, x3⟩ := askCells (HM.out.ch.obj HX.out (fun h => h))
    go_wp2_with fail
    refine (kNumber (W := (w.alloc (.cells #[.int .i64 id, .string path, .int .i64 fr, .int .i64 most] 75))) (by exact HM.out) fr 4 (by omega) h2 (by omega)).mono ?_
    rintro e wn ⟨rfl, hm⟩
    have HM := Lib.hid hm
    clear hm
    try clear x0 x1 x2 x3
    obtain ⟨x0, x1, x2, x3⟩ := askCells (HM.out.ch.obj HX.out (fun h => h))
    go_wp2_with fail
    refine (kNumber (W := (w.alloc (.cells #[.int .i64 id, .string path, .int .i64 fr, .int .i64 most] 75))) (by exact HM.out) most 2 (by omega) h3 (by omega)).mono ?_
    rintro e wn ⟨rfl, hm⟩
    have HM := Lib.hid hm
    clear hm
    try clear x0 x1 x2 x3
    obtain ⟨x0, x1, x2, x3⟩ := askCells (HM.out.ch.obj HX.out (fun h => h))
    go_wp2
    go_ret2
    exact ⟨rfl, HM.out.ch.kept⟩
  · have hlt : ¬ (path.size : Int) < 1 := by omega
    have hgt : (64 : Int) < (path.size : Int) := by omega
    clear h
    go_enter Try.func48, Try.ntmps48
    go_wp2_with fail
    refine (kNumber (W := (w.alloc (.cells #[.int .i64 id, .string path, .int .i64 fr, .int .i64 most] 75))) (by exact HM.out) 1 1 (by omega) (by omega) (by omega)).mono ?_
    rintro e wn ⟨rfl, hm⟩
    have HM := Lib.hid hm
    clear hm
    try clear x0 x1 x2 x3
    obtain ⟨x0, x1, x2, x3⟩ := askCells (HM.out.ch.obj HX.out (fun h => h))
    go_wp2_with fail
    refine (kNumber (W := (w.alloc (.cells #[.int .i64 id, .string path, .int .i64 fr, .int .i64 most] 75))) (by exact HM.out) id 2 (by omega) h1 (by omega)).mono ?_
    rintro e wn ⟨rfl, hm⟩
    have HM := Lib.hid hm
    clear hm
    try clear x0 x1 x2 x3
    obtain ⟨x0, x1, x2, x3⟩ := askCells (HM.out.ch.obj HX.out (fun h => h))
    go_wp2_with fail
    refine (kText (W := (w.alloc (.cells #[.int .i64 id, .string path, .int .i64 fr, .int .i64 most] 75))) (by exact HM.out) path (by omega)).mono ?_
    rintro e wn ⟨rfl, hm⟩
    have HM := Lib.hid hm
    clear hm
    try clear x0 x1 x2 x3
    obtain ⟨x0, x1, x2, x3⟩ := askCells (HM.out.ch.obj HX.out (fun h => h))
    go_wp2_with fail
    refine (kNumber (W := (w.alloc (.cells #[.int .i64 id, .string path, .int .i64 fr, .int .i64 most] 75))) (by exact HM.out) fr 4 (by omega) h2 (by omega)).mono ?_
    rintro e wn ⟨rfl, hm⟩
    have HM := Lib.hid hm
    clear hm
    try clear x0 x1 x2 x3
    obtain ⟨x0, x1, x2, x3⟩ := askCells (HM.out.ch.obj HX.out (fun h => h))
    go_wp2_with fail
    refine (kNumber (W := (w.alloc (.cells #[.int .i64 id, .string path, .int .i64 fr, .int .i64 most] 75))) (by exact HM.out) most 2 (by omega) h3 (by omega)).mono ?_
    rintro e wn ⟨rfl, hm⟩
    have HM := Lib.hid hm
    clear hm
    try clear x0 x1 x2 x3
    obtain ⟨x0, x1, x2, x3⟩ := askCells (HM.out.ch.obj HX.out (fun h => h))
    go_wp2
    go_ret2
    exact ⟨rfl, HM.out.ch.kept⟩
set_option maxRecDepth 100000 in
theorem rLayAsk_ok (w : World) (id fr most : Int) (path : ByteArray) (hp0 : path.size ≠ 0) (hp : path.size ≤ 64) (h1 : id ≤ 9223372036854775807) (h2 : fr ≤ 9223372036854775807) (h3 : most ≤ 9223372036854775807) :
    Calls Try.prog 48 #[.agg #[.int .i64 id, .string path, .int .i64 fr, .int .i64 most]] w fun e w' => e = .returned (.tuple #[.string (bytesF (askW id path fr most)).1, .int .i64 (bytesF (askW id path fr most)).2]) ∧ Chg (fun _ => False) w w' := by
  have HX : Hid ((w.alloc (.cells #[.int .i64 id, .string path, .int .i64 fr, .int .i64 most] 75)).heap[w.heap.size]? = some (.cells #[.int .i64 id, .string path, .int .i64 fr, .int .i64 most] 75 (0, 0))) := Lib.hid (blkAlloc w _)
  have HM := Lib.hid (Made.fresh 28 (w.alloc (.cells #[.int .i64 id, .string path, .int .i64 fr, .int .i64 most] 75)) (w.heap.size + 1) (by simp))
  have hlt : ¬ (path.size : Int) < 1 := by omega
  have hgt : ¬ (64 : Int) < (path.size : Int) := by omega
  have HY : Hid (bytesF (askW id path fr most) = bytesF (numW (numW (rtextW (numW (numW ([], false) 1 1) id 2) path) fr 4) most 2)) := Lib.hid (by rw [text_short _ (by omega)]; rfl)
  go_enter Try.func48, Try.ntmps48
  go_wp2_with fail
  refine (kNumber (W := (w.alloc (.cells #[.int .i64 id, .string path, .int .i64 fr, .int .i64 most] 75))) (by exact HM.out) 1 1 (by omega) (by omega) (by omega)).mono ?_
  rintro e wn ⟨rfl, hm⟩
  have HM := Lib.hid hm
  clear hm
  try clear x0 x1 x2 x3
  obtain ⟨x0, x1, x2, x3⟩ := askCells (HM.out.ch.obj HX.out (fun h => h))
  go_wp2_with fail
  refine (kNumber (W := (w.alloc (.cells #[.int .i64 id, .string path, .int .i64 fr, .int .i64 most] 75))) (by exact HM.out) id 2 (by omega) h1 (by omega)).mono ?_
  rintro e wn ⟨rfl, hm⟩
  have HM := Lib.hid hm
  clear hm
  try clear x0 x1 x2 x3
  obtain ⟨x0, x1, x2, x3⟩ := askCells (HM.out.ch.obj HX.out (fun h => h))
  go_wp2_with fail
  refine (kText (W := (w.alloc (.cells #[.int .i64 id, .string path, .int .i64 fr, .int .i64 most] 75))) (by exact HM.out) path (by omega)).mono ?_
  rintro e wn ⟨rfl, hm⟩
  have HM := Lib.hid hm
  clear hm
  try clear x0 x1 x2 x3
  obtain ⟨x0, x1, x2, x3⟩ := askCells (HM.out.ch.obj HX.out (fun h => h))
  go_wp2_with fail
  refine (kNumber (W := (w.alloc (.cells #[.int .i64 id, .string path, .int .i64 fr, .int .i64 most] 75))) (by exact HM.out) fr 4 (by omega) h2 (by omega)).mono ?_
  rintro e wn ⟨rfl, hm⟩
  have HM := Lib.hid hm
  clear hm
  try clear x0 x1 x2 x3
  obtain ⟨x0, x1, x2, x3⟩ := askCells (HM.out.ch.obj HX.out (fun h => h))
  go_wp2_with fail
  refine (kNumber (W := (w.alloc (.cells #[.int .i64 id, .string path, .int .i64 fr, .int .i64 most] 75))) (by exact HM.out) most 2 (by omega) h3 (by omega)).mono ?_
  rintro e wn ⟨rfl, hm⟩
  have HM := Lib.hid hm
  clear hm
  try clear x0 x1 x2 x3
  obtain ⟨x0, x1, x2, x3⟩ := askCells (HM.out.ch.obj HX.out (fun h => h))
  go_wp2_with fail
  refine (kBytes (W := (w.alloc (.cells #[.int .i64 id, .string path, .int .i64 fr, .int .i64 most] 75))) (by exact HM.out)).mono ?_
  rintro e wn ⟨rfl, rfl⟩
  go_wp2
  go_ret2
  rw [HY.out]
  exact ⟨rfl, HM.out.ch.kept⟩
theorem rLayAsk_all (w : World) (a : AskV) (hs : a.path.size ≤ 140737488351232) (hb : a.id ≤ 9223372036854775807 ∧ a.fr ≤ 9223372036854775807 ∧ a.most ≤ 9223372036854775807) :
    Calls Try.prog 48 #[a.val] w fun e w' => e = .returned (.tuple #[.string (layAskF a).1, .int .i64 (layAskF a).2]) ∧ Chg (fun _ => False) w w' := by
  obtain ⟨id, path, fr, most⟩ := a
  by_cases h : path.size = 0 ∨ 64 < path.size
  · have h1 : layAskF ⟨id, path, fr, most⟩ = (⟨#[]⟩, 1) := by
      unfold layAskF
      exact if_pos h
    rw [h1]
    exact rLayAsk_bad w id fr most path h hs hb.1 hb.2.1 hb.2.2
  · have h1 : layAskF ⟨id, path, fr, most⟩ = bytesF (askW id path fr most) := by
      unfold layAskF
      exact if_neg h
    rw [h1]
    exact rLayAsk_ok w id fr most path (by omega) (by omega) hb.1 hb.2.1 hb.2.2
theorem LayReply_bad (w : World) (id er size : Int) (data : ByteArray) (hf : ¬ RepV.fair ⟨id, er, size, data⟩) :
    Calls Try.prog 49 #[.agg #[.int .i64 id, .int .i64 er, .int .i64 size, .string data]] w fun e w' => e = .returned (.tuple #[.string ⟨#[]⟩, .int .i64 1]) ∧ Chg (fun _ => False) w w' := by
  have HF := Lib.hid hf
  clear hf
  go_enter Try.func49, Try.ntmps49
  go_wp2_with fail
  refine (fair_no _ ⟨id, er, size, data⟩ HF.out).mono ?_
  rintro e w1 ⟨rfl, hg⟩
  have HG := Lib.hid hg
  clear hg
  go_wp2
  go_ret2
  exact ⟨rfl, HG.out.kept⟩
set_option maxRecDepth 100000 in
theorem LayReply_ok (w : World) (id er size : Int) (data : ByteArray) (hf : RepV.fair ⟨id, er, size, data⟩) (hs : data.size ≤ 140737488351232) :
    Calls Try.prog 49 #[.agg #[.int .i64 id, .int .i64 er, .int .i64 size, .string data]] w fun e w' => e = .returned (.tuple #[.string (bytesF (RepV.w ⟨id, er, size, data⟩)).1, .int .i64 (bytesF (RepV.w ⟨id, er, size, data⟩)).2]) ∧ Chg (fun _ => False) w w' := by
  have HX0 : Hid ((w.alloc (.cells #[.int .i64 id, .int .i64 er, .int .i64 size, .string data] 77)).heap[w.heap.size]? = some (.cells #[.int .i64 id, .int .i64 er, .int .i64 size, .string data] 77 (0, 0))) := Lib.hid (blkAlloc w _)
  have HF := Lib.hid hf
  have HY : Hid (RepV.w ⟨id, er, size, data⟩ = wtextW (numW (numW (numW (numW ([], false) 2 1) id 2) er 1) size 4) data) := Lib.hid rfl
  clear hf
  go_enter Try.func49, Try.ntmps49
  go_wp2_with fail
  refine (fair_yes _ ⟨id, er, size, data⟩ HF.out).mono ?_
  rintro e w1 ⟨rfl, hg⟩
  have HG := Lib.hid hg
  have HX := Lib.hid (hg.obj HX0.out (fun h => h))
  clear hg
  have HM := Lib.hid (Made.fresh 26 w1 w1.heap.size rfl)
  go_wp2_with fail
  refine (mByte_calls (W := w1) (by exact HM.out) 2 (by omega)).mono ?_
  rintro e wn ⟨rfl, hm⟩
  have HM := Lib.hid hm
  clear hm
  try clear x0 x1 x2 x3
  obtain ⟨x0, x1, x2, x3⟩ := askCells (HM.out.ch.obj HX.out (fun h => h))
  go_wp2_with fail
  refine (mTwo_calls (W := w1) (by exact HM.out) id (by omega)).mono ?_
  rintro e wn ⟨rfl, hm⟩
  have HM := Lib.hid hm
  clear hm
  try clear x0 x1 x2 x3
  obtain ⟨x0, x1, x2, x3⟩ := askCells (HM.out.ch.obj HX.out (fun h => h))
  go_wp2_with fail
  refine (mByte_calls (W := w1) (by exact HM.out) er (by omega)).mono ?_
  rintro e wn ⟨rfl, hm⟩
  have HM := Lib.hid hm
  clear hm
  try clear x0 x1 x2 x3
  obtain ⟨x0, x1, x2, x3⟩ := askCells (HM.out.ch.obj HX.out (fun h => h))
  go_wp2_with fail
  refine (mFour_calls (W := w1) (by exact HM.out) size (by omega)).mono ?_
  rintro e wn ⟨rfl, hm⟩
  have HM := Lib.hid hm
  clear hm
  try clear x0 x1 x2 x3
  obtain ⟨x0, x1, x2, x3⟩ := askCells (HM.out.ch.obj HX.out (fun h => h))
  go_wp2_with fail
  refine (mText_calls (W := w1) (by exact HM.out) data (by omega)).mono ?_
  rintro e wn ⟨rfl, hm⟩
  have HM := Lib.hid hm
  clear hm
  try clear x0 x1 x2 x3
  obtain ⟨x0, x1, x2, x3⟩ := askCells (HM.out.ch.obj HX.out (fun h => h))
  go_wp2_with fail
  refine (mBytesF (W := w1) (by exact HM.out)).mono ?_
  rintro e wn ⟨rfl, rfl⟩
  go_wp2
  go_ret2
  rw [HY.out]
  exact ⟨rfl, HG.out.kept.trans HM.out.ch (fun _ h => h.elim)⟩
theorem LayReply_all (w : World) (r : RepV) (hs : r.data.size ≤ 140737488351232) :
    Calls Try.prog 49 #[r.val] w fun e w' => e = .returned (.tuple #[.string (layRepF r).1, .int .i64 (layRepF r).2]) ∧ Chg (fun _ => False) w w' := by
  obtain ⟨id, er, size, data⟩ := r
  by_cases h : RepV.fair ⟨id, er, size, data⟩
  · have h1 : layRepF ⟨id, er, size, data⟩ = bytesF (RepV.w ⟨id, er, size, data⟩) := if_pos h
    rw [h1]
    exact LayReply_ok w id er size data h hs
  · have h1 : layRepF ⟨id, er, size, data⟩ = (⟨#[]⟩, 1) := if_neg h
    rw [h1]
    exact LayReply_bad w id er size data h
set_option maxRecDepth 100000 in
theorem rLayReply_bad1 (w : World) (id er size : Int) (data : ByteArray) (hs : data.size ≤ 140737488351232) (hb : (er != 0) = true) (hz : (size != 0) = true) (h1 : id ≤ 9223372036854775807) (h2 : er ≤ 9223372036854775807) (h3 : size ≤ 9223372036854775807) :
    Calls Try.prog 50 #[.agg #[.int .i64 id, .int .i64 er, .int .i64 size, .string data]] w fun e w' => e = .returned (.tuple #[.string ⟨#[]⟩, .int .i64 1]) ∧ Chg (fun _ => False) w w' := by
  have HX : Hid ((w.alloc (.cells #[.int .i64 id, .int .i64 er, .int .i64 size, .string data] 77)).heap[w.heap.size]? = some (.cells #[.int .i64 id, .int .i64 er, .int .i64 size, .string data] 77 (0, 0))) := Lib.hid (blkAlloc w _)
  have HM := Lib.hid (Made.fresh 28 (w.alloc (.cells #[.int .i64 id, .int .i64 er, .int .i64 size, .string data] 77)) (w.heap.size + 1) (by simp))
  go_enter Try.func50, Try.ntmps50
  go_wp2_with fail
  refine (kNumber (W := (w.alloc (.cells #[.int .i64 id, .int .i64 er, .int .i64 size, .string data] 77))) (by exact HM.out) 2 1 (by omega) (by omega) (by omega)).mono ?_
  rintro e wn ⟨rfl, hm⟩
  have HM := Lib.hid hm
  clear hm
  try clear x0 x1 x2 x3
  obtain ⟨x0, x1, x2, x3⟩ := askCells (HM.out.ch.obj HX.out (fun h => h))
  go_wp2_with fail
  refine (kNumber (W := (w.alloc (.cells #[.int .i64 id, .int .i64 er, .int .i64 size, .string data] 77))) (by exact HM.out) id 2 (by omega) h1 (by omega)).mono ?_
  rintro e wn ⟨rfl, hm⟩
  have HM := Lib.hid hm
  clear hm
  try clear x0 x1 x2 x3
  obtain ⟨x0, x1, x2, x3⟩ := askCells (HM.out.ch.obj HX.out (fun h => h))
  go_wp2_with fail
  refine (kNumber (W := (w.alloc (.cells #[.int .i64 id, .int .i64 er, .int .i64 size, .string data] 77))) (by exact HM.out) er 1 (by omega) h2 (by omega)).mono ?_
  rintro e wn ⟨rfl, hm⟩
  have HM := Lib.hid hm
  clear hm
  try clear x0 x1 x2 x3
  obtain ⟨x0, x1, x2, x3⟩ := askCells (HM.out.ch.obj HX.out (fun h => h))
  go_wp2_with fail
  refine (kNumber (W := (w.alloc (.cells #[.int .i64 id, .int .i64 er, .int .i64 size, .string data] 77))) (by exact HM.out) size 4 (by omega) h3 (by omega)).mono ?_
  rintro e wn ⟨rfl, hm⟩
  have HM := Lib.hid hm
  clear hm
  try clear x0 x1 x2 x3
  obtain ⟨x0, x1, x2, x3⟩ := askCells (HM.out.ch.obj HX.out (fun h => h))
  go_wp2_with fail
  refine (kText (W := (w.alloc (.cells #[.int .i64 id, .int .i64 er, .int .i64 size, .string data] 77))) (by exact HM.out) data (by omega)).mono ?_
  rintro e wn ⟨rfl, hm⟩
  have HM := Lib.hid hm
  clear hm
  try clear x0 x1 x2 x3
  obtain ⟨x0, x1, x2, x3⟩ := askCells (HM.out.ch.obj HX.out (fun h => h))
  go_wp2
  go_ret2
  exact ⟨rfl, HM.out.ch.kept⟩
set_option maxRecDepth 100000 in
theorem rLayReply_bad2 (w : World) (id er size : Int) (data : ByteArray) (hs : data.size ≤ 140737488351232) (hb : (er != 0) = true) (hz : (size != 0) = false) (hd : (data.toList == []) = false) (h1 : id ≤ 9223372036854775807) (h2 : er ≤ 9223372036854775807) (h3 : size ≤ 9223372036854775807) :
    Calls Try.prog 50 #[.agg #[.int .i64 id, .int .i64 er, .int .i64 size, .string data]] w fun e w' => e = .returned (.tuple #[.string ⟨#[]⟩, .int .i64 1]) ∧ Chg (fun _ => False) w w' := by
  have HX : Hid ((w.alloc (.cells #[.int .i64 id, .int .i64 er, .int .i64 size, .string data] 77)).heap[w.heap.size]? = some (.cells #[.int .i64 id, .int .i64 er, .int .i64 size, .string data] 77 (0, 0))) := Lib.hid (blkAlloc w _)
  have HM := Lib.hid (Made.fresh 28 (w.alloc (.cells #[.int .i64 id, .int .i64 er, .int .i64 size, .string data] 77)) (w.heap.size + 1) (by simp))
  have hd2 : data.toList.isEmpty = false := str_full hd
  go_enter Try.func50, Try.ntmps50
  go_wp2_with fail
  refine (kNumber (W := (w.alloc (.cells #[.int .i64 id, .int .i64 er, .int .i64 size, .string data] 77))) (by exact HM.out) 2 1 (by omega) (by omega) (by omega)).mono ?_
  rintro e wn ⟨rfl, hm⟩
  have HM := Lib.hid hm
  clear hm
  try clear x0 x1 x2 x3
  obtain ⟨x0, x1, x2, x3⟩ := askCells (HM.out.ch.obj HX.out (fun h => h))
  go_wp2_with fail
  refine (kNumber (W := (w.alloc (.cells #[.int .i64 id, .int .i64 er, .int .i64 size, .string data] 77))) (by exact HM.out) id 2 (by omega) h1 (by omega)).mono ?_
  rintro e wn ⟨rfl, hm⟩
  have HM := Lib.hid hm
  clear hm
  try clear x0 x1 x2 x3
  obtain ⟨x0, x1, x2, x3⟩ := askCells (HM.out.ch.obj HX.out (fun h => h))
  go_wp2_with fail
  refine (kNumber (W := (w.alloc (.cells #[.int .i64 id, .int .i64 er, .int .i64 size, .string data] 77))) (by exact HM.out) er 1 (by omega) h2 (by omega)).mono ?_
  rintro e wn ⟨rfl, hm⟩
  have HM := Lib.hid hm
  clear hm
  try clear x0 x1 x2 x3
  obtain ⟨x0, x1, x2, x3⟩ := askCells (HM.out.ch.obj HX.out (fun h => h))
  go_wp2_with fail
  refine (kNumber (W := (w.alloc (.cells #[.int .i64 id, .int .i64 er, .int .i64 size, .string data] 77))) (by exact HM.out) size 4 (by omega) h3 (by omega)).mono ?_
  rintro e wn ⟨rfl, hm⟩
  have HM := Lib.hid hm
  clear hm
  try clear x0 x1 x2 x3
  obtain ⟨x0, x1, x2, x3⟩ := askCells (HM.out.ch.obj HX.out (fun h => h))
  go_wp2_with fail
  refine (kText (W := (w.alloc (.cells #[.int .i64 id, .int .i64 er, .int .i64 size, .string data] 77))) (by exact HM.out) data (by omega)).mono ?_
  rintro e wn ⟨rfl, hm⟩
  have HM := Lib.hid hm
  clear hm
  try clear x0 x1 x2 x3
  obtain ⟨x0, x1, x2, x3⟩ := askCells (HM.out.ch.obj HX.out (fun h => h))
  go_wp2
  go_ret2
  exact ⟨rfl, HM.out.ch.kept⟩
set_option maxRecDepth 100000 in
theorem rLayReply_ok1 (w : World) (id er size : Int) (data : ByteArray) (hs : data.size ≤ 140737488351232) (hb : (er != 0) = false) (h1 : id ≤ 9223372036854775807) (h2 : er ≤ 9223372036854775807) (h3 : size ≤ 9223372036854775807) :
    Calls Try.prog 50 #[.agg #[.int .i64 id, .int .i64 er, .int .i64 size, .string data]] w fun e w' => e = .returned (.tuple #[.string (bytesF (RepV.w ⟨id, er, size, data⟩)).1, .int .i64 (bytesF (RepV.w ⟨id, er, size, data⟩)).2]) ∧ Chg (fun _ => False) w w' := by
  have HX : Hid ((w.alloc (.cells #[.int .i64 id, .int .i64 er, .int .i64 size, .string data] 77)).heap[w.heap.size]? = some (.cells #[.int .i64 id, .int .i64 er, .int .i64 size, .string data] 77 (0, 0))) := Lib.hid (blkAlloc w _)
  have HM := Lib.hid (Made.fresh 28 (w.alloc (.cells #[.int .i64 id, .int .i64 er, .int .i64 size, .string data] 77)) (w.heap.size + 1) (by simp))
  have HY : Hid (bytesF (RepV.w ⟨id, er, size, data⟩) = bytesF (rtextW (numW (numW (numW (numW ([], false) 2 1) id 2) er 1) size 4) data)) := Lib.hid (by rw [text_same]; rfl)
  go_enter Try.func50, Try.ntmps50
  go_wp2_with fail
  refine (kNumber (W := (w.alloc (.cells #[.int .i64 id, .int .i64 er, .int .i64 size, .string data] 77))) (by exact HM.out) 2 1 (by omega) (by omega) (by omega)).mono ?_
  rintro e wn ⟨rfl, hm⟩
  have HM := Lib.hid hm
  clear hm
  try clear x0 x1 x2 x3
  obtain ⟨x0, x1, x2, x3⟩ := askCells (HM.out.ch.obj HX.out (fun h => h))
  go_wp2_with fail
  refine (kNumber (W := (w.alloc (.cells #[.int .i64 id, .int .i64 er, .int .i64 size, .string data] 77))) (by exact HM.out) id 2 (by omega) h1 (by omega)).mono ?_
  rintro e wn ⟨rfl, hm⟩
  have HM := Lib.hid hm
  clear hm
  try clear x0 x1 x2 x3
  obtain ⟨x0, x1, x2, x3⟩ := askCells (HM.out.ch.obj HX.out (fun h => h))
  go_wp2_with fail
  refine (kNumber (W := (w.alloc (.cells #[.int .i64 id, .int .i64 er, .int .i64 size, .string data] 77))) (by exact HM.out) er 1 (by omega) h2 (by omega)).mono ?_
  rintro e wn ⟨rfl, hm⟩
  have HM := Lib.hid hm
  clear hm
  try clear x0 x1 x2 x3
  obtain ⟨x0, x1, x2, x3⟩ := askCells (HM.out.ch.obj HX.out (fun h => h))
  go_wp2_with fail
  refine (kNumber (W := (w.alloc (.cells #[.int .i64 id, .int .i64 er, .int .i64 size, .string data] 77))) (by exact HM.out) size 4 (by omega) h3 (by omega)).mono ?_
  rintro e wn ⟨rfl, hm⟩
  have HM := Lib.hid hm
  clear hm
  try clear x0 x1 x2 x3
  obtain ⟨x0, x1, x2, x3⟩ := askCells (HM.out.ch.obj HX.out (fun h => h))
  go_wp2_with fail
  refine (kText (W := (w.alloc (.cells #[.int .i64 id, .int .i64 er, .int .i64 size, .string data] 77))) (by exact HM.out) data (by omega)).mono ?_
  rintro e wn ⟨rfl, hm⟩
  have HM := Lib.hid hm
  clear hm
  try clear x0 x1 x2 x3
  obtain ⟨x0, x1, x2, x3⟩ := askCells (HM.out.ch.obj HX.out (fun h => h))
  go_wp2_with fail
  refine (kBytes (W := (w.alloc (.cells #[.int .i64 id, .int .i64 er, .int .i64 size, .string data] 77))) (by exact HM.out)).mono ?_
  rintro e wn ⟨rfl, rfl⟩
  go_wp2
  go_ret2
  rw [HY.out]
  exact ⟨rfl, HM.out.ch.kept⟩
set_option maxRecDepth 100000 in
theorem rLayReply_ok2 (w : World) (id er size : Int) (data : ByteArray) (hs : data.size ≤ 140737488351232) (hb : (er != 0) = true) (hz : (size != 0) = false) (hd : (data.toList == []) = true) (h1 : id ≤ 9223372036854775807) (h2 : er ≤ 9223372036854775807) (h3 : size ≤ 9223372036854775807) :
    Calls Try.prog 50 #[.agg #[.int .i64 id, .int .i64 er, .int .i64 size, .string data]] w fun e w' => e = .returned (.tuple #[.string (bytesF (RepV.w ⟨id, er, size, data⟩)).1, .int .i64 (bytesF (RepV.w ⟨id, er, size, data⟩)).2]) ∧ Chg (fun _ => False) w w' := by
  have HX : Hid ((w.alloc (.cells #[.int .i64 id, .int .i64 er, .int .i64 size, .string data] 77)).heap[w.heap.size]? = some (.cells #[.int .i64 id, .int .i64 er, .int .i64 size, .string data] 77 (0, 0))) := Lib.hid (blkAlloc w _)
  have HM := Lib.hid (Made.fresh 28 (w.alloc (.cells #[.int .i64 id, .int .i64 er, .int .i64 size, .string data] 77)) (w.heap.size + 1) (by simp))
  have HY : Hid (bytesF (RepV.w ⟨id, er, size, data⟩) = bytesF (rtextW (numW (numW (numW (numW ([], false) 2 1) id 2) er 1) size 4) data)) := Lib.hid (by rw [text_same]; rfl)
  have hd2 : data.toList.isEmpty = true := str_void hd
  go_enter Try.func50, Try.ntmps50
  go_wp2_with fail
  refine (kNumber (W := (w.alloc (.cells #[.int .i64 id, .int .i64 er, .int .i64 size, .string data] 77))) (by exact HM.out) 2 1 (by omega) (by omega) (by omega)).mono ?_
  rintro e wn ⟨rfl, hm⟩
  have HM := Lib.hid hm
  clear hm
  try clear x0 x1 x2 x3
  obtain ⟨x0, x1, x2, x3⟩ := askCells (HM.out.ch.obj HX.out (fun h => h))
  go_wp2_with fail
  refine (kNumber (W := (w.alloc (.cells #[.int .i64 id, .int .i64 er, .int .i64 size, .string data] 77))) (by exact HM.out) id 2 (by omega) h1 (by omega)).mono ?_
  rintro e wn ⟨rfl, hm⟩
  have HM := Lib.hid hm
  clear hm
  try clear x0 x1 x2 x3
  obtain ⟨x0, x1, x2, x3⟩ := askCells (HM.out.ch.obj HX.out (fun h => h))
  go_wp2_with fail
  refine (kNumber (W := (w.alloc (.cells #[.int .i64 id, .int .i64 er, .int .i64 size, .string data] 77))) (by exact HM.out) er 1 (by omega) h2 (by omega)).mono ?_
  rintro e wn ⟨rfl, hm⟩
  have HM := Lib.hid hm
  clear hm
  try clear x0 x1 x2 x3
  obtain ⟨x0, x1, x2, x3⟩ := askCells (HM.out.ch.obj HX.out (fun h => h))
  go_wp2_with fail
  refine (kNumber (W := (w.alloc (.cells #[.int .i64 id, .int .i64 er, .int .i64 size, .string data] 77))) (by exact HM.out) size 4 (by omega) h3 (by omega)).mono ?_
  rintro e wn ⟨rfl, hm⟩
  have HM := Lib.hid hm
  clear hm
  try clear x0 x1 x2 x3
  obtain ⟨x0, x1, x2, x3⟩ := askCells (HM.out.ch.obj HX.out (fun h => h))
  go_wp2_with fail
  refine (kText (W := (w.alloc (.cells #[.int .i64 id, .int .i64 er, .int .i64 size, .string data] 77))) (by exact HM.out) data (by omega)).mono ?_
  rintro e wn ⟨rfl, hm⟩
  have HM := Lib.hid hm
  clear hm
  try clear x0 x1 x2 x3
  obtain ⟨x0, x1, x2, x3⟩ := askCells (HM.out.ch.obj HX.out (fun h => h))
  go_wp2_with fail
  refine (kBytes (W := (w.alloc (.cells #[.int .i64 id, .int .i64 er, .int .i64 size, .string data] 77))) (by exact HM.out)).mono ?_
  rintro e wn ⟨rfl, rfl⟩
  go_wp2
  go_ret2
  rw [HY.out]
  exact ⟨rfl, HM.out.ch.kept⟩
theorem rLayReply_ok (w : World) (id er size : Int) (data : ByteArray) (hf : RepV.fair ⟨id, er, size, data⟩) (hs : data.size ≤ 140737488351232) (h1 : id ≤ 9223372036854775807) (h2 : er ≤ 9223372036854775807) (h3 : size ≤ 9223372036854775807) :
    Calls Try.prog 50 #[.agg #[.int .i64 id, .int .i64 er, .int .i64 size, .string data]] w fun e w' => e = .returned (.tuple #[.string (bytesF (RepV.w ⟨id, er, size, data⟩)).1, .int .i64 (bytesF (RepV.w ⟨id, er, size, data⟩)).2]) ∧ Chg (fun _ => False) w w' := by
  by_cases he : er = 0
  · exact rLayReply_ok1 w id er size data hs (by simp [he]) h1 h2 h3
  · rcases hf with h | h
    · exact absurd h he
    · exact rLayReply_ok2 w id er size data hs (by simp [he]) (by simp only [show size = 0 from h.1]; rfl) (str_eq h.2) h1 h2 h3
theorem rLayReply_bad (w : World) (id er size : Int) (data : ByteArray) (hf : ¬ RepV.fair ⟨id, er, size, data⟩) (hs : data.size ≤ 140737488351232) (h1 : id ≤ 9223372036854775807) (h2 : er ≤ 9223372036854775807) (h3 : size ≤ 9223372036854775807) :
    Calls Try.prog 50 #[.agg #[.int .i64 id, .int .i64 er, .int .i64 size, .string data]] w fun e w' => e = .returned (.tuple #[.string ⟨#[]⟩, .int .i64 1]) ∧ Chg (fun _ => False) w w' := by
  have he : er ≠ 0 := fun h => hf (.inl h)
  by_cases hz : size = 0
  · exact rLayReply_bad2 w id er size data hs (by simp [he]) (by simp [hz]) (str_ne (fun h => hf (.inr ⟨hz, h⟩))) h1 h2 h3
  · exact rLayReply_bad1 w id er size data hs (by simp [he]) (by simp [hz]) h1 h2 h3
theorem rLayReply_all (w : World) (r : RepV) (hs : r.data.size ≤ 140737488351232) (hb : r.id ≤ 9223372036854775807 ∧ r.err ≤ 9223372036854775807 ∧ r.size ≤ 9223372036854775807) :
    Calls Try.prog 50 #[r.val] w fun e w' => e = .returned (.tuple #[.string (layRepF r).1, .int .i64 (layRepF r).2]) ∧ Chg (fun _ => False) w w' := by
  obtain ⟨id, er, size, data⟩ := r
  by_cases h : RepV.fair ⟨id, er, size, data⟩
  · have h1 : layRepF ⟨id, er, size, data⟩ = bytesF (RepV.w ⟨id, er, size, data⟩) := if_pos h
    rw [h1]
    exact rLayReply_ok w id er size data h hs hb.1 hb.2.1 hb.2.2
  · have h1 : layRepF ⟨id, er, size, data⟩ = (⟨#[]⟩, 1) := if_neg h
    rw [h1]
    exact rLayReply_bad w id er size data h hs hb.1 hb.2.1 hb.2.2
end Go.Proofs.Ytjlkflbkejpcaaa

/- The bytes of an ask (wire.LayAsk), and the document's first example of layer 19. -/
import Derived.Test.YtjlkflbkejpcaaaTake
import Derived.Test.YtjlkflbkejpcaaaMade
namespace Go.Proofs.Ytjlkflbkejpcaaa
open Go.RowKit

def askW (id : Int) (path : ByteArray) (fr most : Int) : WS := numW (numW (wtextW (numW (numW ([], false) 1 1) id 2) path) fr 4) most 2
theorem askCells {w : World} {g : Nat} {a b c d : Value} {T : TypeId} (h : w.heap[g]? = some (.cells #[a, b, c, d] T (0, 0))) :
    w.cell? ⟨g, 0, none⟩ = some a ∧ w.cell? ⟨g, 1, none⟩ = some b ∧ w.cell? ⟨g, 2, none⟩ = some c ∧ w.cell? ⟨g, 3, none⟩ = some d :=
  ⟨blkCell h 0, blkCell h 1, blkCell h 2, blkCell h 3⟩
theorem bytesV_two (s : WS) : ∃ (t : ByteArray) (e : Int), bytesV s = .tuple #[.string t, .int .i64 e] := by
  unfold bytesV
  split
  · exact ⟨_, _, rfl⟩
  · exact ⟨_, _, rfl⟩
theorem str_ne {s : ByteArray} (h : s.size ≠ 0) : (s.toList == []) = false := by
  rw [ByteArray.toList_eq]
  have : s.data.toList.length ≠ 0 := by rw [bsize]; exact h
  cases h : s.data.toList with
  | nil => rw [h] at this; exact absurd rfl this
  | cons => rfl
theorem str_eq {s : ByteArray} (h : s.size = 0) : (s.toList == []) = true := by
  rw [ByteArray.toList_eq]
  have : s.data.toList.length = 0 := by rw [bsize]; exact h
  rw [List.length_eq_zero_iff.1 this]
  rfl

set_option maxRecDepth 100000 in
theorem LayAsk_calls (w : World) (id fr most : Int) (path : ByteArray) (hp0 : path.size ≠ 0) (hp : path.size ≤ 64) :
    Calls Try.prog 47 #[.agg #[.int .i64 id, .string path, .int .i64 fr, .int .i64 most]] w fun e w' => e = .returned (bytesV (askW id path fr most)) ∧ Chg (fun _ => False) w w' := by
  have HX : Hid ((w.alloc (.cells #[.int .i64 id, .string path, .int .i64 fr, .int .i64 most] 75)).heap[w.heap.size]? = some (.cells #[.int .i64 id, .string path, .int .i64 fr, .int .i64 most] 75 (0, 0))) := Lib.hid (blkAlloc w _)
  have HM := Lib.hid (Made.fresh 26 (w.alloc (.cells #[.int .i64 id, .string path, .int .i64 fr, .int .i64 most] 75)) (w.heap.size + 1) (by simp))
  have hne := str_ne hp0
  have hgt : ¬ (64 : Int) < (path.size : Int) := by omega
  go_enter Try.func47, Try.ntmps47
  go_wp2_with (first
    | (go_at_call 58; refine (mByte_calls (W := w.alloc (.cells #[.int .i64 id, .string path, .int .i64 fr, .int .i64 most] 75)) (by exact HM.out) 1 (by omega)).mono ?_; rintro e w1 ⟨rfl, hm⟩; have HM := Lib.hid hm; clear hm; obtain ⟨x0, x1, x2, x3⟩ := askCells (HM.out.ch.obj HX.out (fun h => h)))
    | (go_at_call 56; refine (mTwo_calls (W := w.alloc (.cells #[.int .i64 id, .string path, .int .i64 fr, .int .i64 most] 75)) (by exact HM.out) _ (by omega)).mono ?_; rintro e w1 ⟨rfl, hm⟩; have HM := Lib.hid hm; clear hm; obtain ⟨x0, x1, x2, x3⟩ := askCells (HM.out.ch.obj HX.out (fun h => h)))
    | (go_at_call 60; refine (mFour_calls (W := w.alloc (.cells #[.int .i64 id, .string path, .int .i64 fr, .int .i64 most] 75)) (by exact HM.out) _ (by omega)).mono ?_; rintro e w1 ⟨rfl, hm⟩; have HM := Lib.hid hm; clear hm; obtain ⟨x0, x1, x2, x3⟩ := askCells (HM.out.ch.obj HX.out (fun h => h)))
    | (go_at_call 57; refine (mText_calls (W := w.alloc (.cells #[.int .i64 id, .string path, .int .i64 fr, .int .i64 most] 75)) (by exact HM.out) _ (by omega)).mono ?_; rintro e w1 ⟨rfl, hm⟩; have HM := Lib.hid hm; clear hm; obtain ⟨x0, x1, x2, x3⟩ := askCells (HM.out.ch.obj HX.out (fun h => h)))
    | (go_at_call 13; refine (mBytes_calls (by exact HM.out)).mono ?_; rintro e w2 ⟨rfl, rfl⟩; obtain ⟨bs, er, hb⟩ := bytesV_two (askW id path fr most); have HY := Lib.hid hb; unfold askW at hb; rw [hb]; clear hb))
  go_ret2
  rw [HY.out]
  exact ⟨rfl, HM.out.ch.kept⟩
/-- The block b holds a network that was made behind W; nothing of W has turned. -/
structure NMade (T : TypeId) (W w : World) (b : Nat) (l : List Pk) (lost : Int) : Prop where
  ex : ∃ r, NetAt T w b r l lost ∧ ∀ k, r = some k → W.heap.size ≤ k
  bb : W.heap.size ≤ b
  ch : Chg (fun _ => False) W w
theorem NMade.fresh (T : TypeId) (W : World) (b : Nat) (hb : W.heap.size = b) : NMade T W (W.alloc (.cells #[.slice none 0 0, .int .i64 0] T)) b [] 0 := by
  subst hb
  exact ⟨⟨none, NetAt.fresh T W, fun _ e => by cases e⟩, Nat.le_refl _, (Chg.refl _ W).alloc _⟩
theorem NMade.kept {T : TypeId} {W w w1 : World} {b : Nat} {l : List Pk} {lost : Int} (h : NMade T W w b l lost) (hc : Chg (fun _ => False) w w1) : NMade T W w1 b l lost := by
  obtain ⟨r, h1, h2⟩ := h.ex
  exact ⟨⟨r, h1.kept hc, h2⟩, h.bb, h.ch.trans hc (fun _ e => e.elim)⟩
theorem NMade.alloc {T : TypeId} {W w : World} {b : Nat} {l : List Pk} {lost : Int} (h : NMade T W w b l lost) (o : Obj) : NMade T W (w.alloc o) b l lost := h.kept ((Chg.refl _ w).alloc o)
theorem NMade.step {T : TypeId} {W w w1 : World} {b : Nat} {l l1 : List Pk} {lost lost1 : Int} {r r1 : Option Nat} (h : NMade T W w b l lost) (hr : ∀ k, r = some k → W.heap.size ≤ k) (h1 : NetAt T w1 b r1 l1 lost1) (hn : Newer w r r1) (hc : Chg (fun k => k = b ∨ r = some k) w w1) : NMade T W w1 b l1 lost1 :=
  ⟨⟨r1, h1, fun k e => (hn k e).elim (hr k) (fun h2 => Nat.le_trans h.ch.size h2)⟩, h.bb, h.ch.trans hc (fun k e => .inr (e.elim (fun e => by rw [e]; exact h.bb) (hr k)))⟩
theorem nSend_calls {W w : World} {b : Nat} {l : List Pk} {lost : Int} (h : NMade 41 W w b l lost) (p : Pk) :
    Calls Try.prog 17 #[.pointer (some ⟨b, 0, none⟩), Pk.val p] w fun e w' => e = .returned (.int .i64 (sendF l lost p).1) ∧ NMade 41 W w' b (sendF l lost p).2.1 (sendF l lost p).2.2 := by
  obtain ⟨r, h1, h2⟩ := h.ex
  refine (Send_calls w b r l lost h1 p).mono ?_
  rintro e w' ⟨rfl, r1, h3, h4, h5⟩
  exact ⟨rfl, h.step h2 h3 h4 h5⟩
theorem nTake_ok {W w : World} {b : Nat} {l : List Pk} {lost : Int} (h : NMade 41 W w b l lost) (j : Nat) (p : Pk) (hj : l[j]? = some p) (hl : l.length ≤ 64) :
    Calls Try.prog 20 #[.pointer (some ⟨b, 0, none⟩), .int .i64 j] w fun e w' => e = .returned (.tuple #[Pk.val p, .int .i64 0]) ∧ NMade 41 W w' b (l.eraseIdx j) lost ∧ w.heap.size ≤ w'.heap.size ∧ ∀ g o, W.heap.size ≤ g → w.heap[g]? = some o → g ≠ b → True := by
  obtain ⟨r, h1, h2⟩ := h.ex
  refine (Take_ok w b r l lost h1 j p hj hl).mono ?_
  rintro e w' ⟨rfl, h3, h5⟩
  exact ⟨rfl, h.step h2 h3 (Newer.refl _ _) h5, h5.size, fun _ _ _ _ _ => trivial⟩
theorem nCount_calls {W w : World} {b : Nat} {l : List Pk} {lost : Int} (h : NMade 41 W w b l lost) :
    Calls Try.prog 18 #[.pointer (some ⟨b, 0, none⟩)] w fun e w' => e = .returned (.int .i64 l.length) ∧ w = w' := by
  obtain ⟨r, h1, _⟩ := h.ex
  exact Count_calls w b r l lost h1
theorem nLost_calls {W w : World} {b : Nat} {l : List Pk} {lost : Int} (h : NMade 41 W w b l lost) :
    Calls Try.prog 19 #[.pointer (some ⟨b, 0, none⟩)] w fun e w' => e = .returned (.int .i64 lost) ∧ w = w' := by
  obtain ⟨r, h1, _⟩ := h.ex
  exact Lost_calls w b r l lost h1

theorem goesW : askW 7 ⟨#[120]⟩ 0 64 = ([1, 0, 7, 0, 1, 120, 0, 0, 0, 0, 0, 64], false) := by decide
theorem goesV : bytesV (askW 7 ⟨#[120]⟩ 0 64) = .tuple #[.string ⟨#[1, 0, 7, 0, 1, 120, 0, 0, 0, 0, 0, 64]⟩, .int .i64 0] := by rw [goesW]; rfl
theorem goes1 : sendF [] 0 ⟨0, 1, ⟨#[97]⟩⟩ = (0, [⟨0, 1, ⟨#[97]⟩⟩], 0) := rfl
theorem goes2 : sendF [⟨0, 1, ⟨#[97]⟩⟩] 0 ⟨0, 1, ⟨#[98]⟩⟩ = (0, [⟨0, 1, ⟨#[97]⟩⟩, ⟨0, 1, ⟨#[98]⟩⟩], 0) := rfl
theorem goes_calls (w : World) : Calls Try.prog 15 #[] w fun e w' => e = .returned (.bool true) ∧ Chg (fun _ => False) w w' := by
  have HM := Lib.hid (NMade.fresh 41 w w.heap.size rfl)
  go_enter Try.func15, Try.ntmps15
  go_wp2_with fail
  refine (nSend_calls (W := w) (by exact HM.out) ⟨0, 1, ⟨#[97]⟩⟩).mono ?_
  rw [goes1]
  rintro e w1 ⟨rfl, hm⟩
  have HM := Lib.hid hm
  clear hm
  go_wp2_with fail
  refine (nSend_calls (W := w) (by exact HM.out) ⟨0, 1, ⟨#[98]⟩⟩).mono ?_
  rw [goes2]
  rintro e w2 ⟨rfl, hm⟩
  have HM := Lib.hid hm
  clear hm
  go_wp2_with fail
  refine (nTake_ok (W := w) (by exact HM.out) 1 _ rfl (by decide)).mono ?_
  rintro e w3 ⟨rfl, hm, _⟩
  have HM := Lib.hid hm
  clear hm
  simp only [Pk.val]
  go_wp2_with fail
  refine (LayAsk_calls _ 7 0 64 ⟨#[120]⟩ (by decide) (by decide)).mono ?_
  rintro e w4 ⟨rfl, hg⟩
  have HM4 := Lib.hid ((HM.out.alloc _).kept hg)
  have hx := hg.obj (blkAlloc w3 _) (fun h => h)
  have d2 := blkCell hx 2
  clear hx hg
  rw [goesV]
  go_wp2_with fail
  refine (nCount_calls (W := w) (by exact HM4.out)).mono ?_
  rintro e w5 ⟨rfl, rfl⟩
  go_wp2
  go_ret
  exact ⟨rfl, HM4.out.ch⟩

end Go.Proofs.Ytjlkflbkejpcaaa

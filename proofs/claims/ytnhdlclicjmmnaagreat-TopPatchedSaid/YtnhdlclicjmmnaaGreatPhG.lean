/- TopPatched: delta's take: nothing to take; a part of an addition; what is too short. -/
import Derived.Test.YtnhdlclicjmmnaaGreatPhE
namespace Go.Proofs.YtnhdlclicjmmnaaGreat
open Go.RowKit Go.Lib Go.Shelf
theorem wstr_ne {s : ByteArray} (h : s.size ≠ 0) : (s.toList == []) = false := by
  rw [ByteArray.toList_eq]
  have : s.data.toList.length ≠ 0 := by rw [bsize]; exact h
  cases h : s.data.toList with
  | nil => rw [h] at this; exact absurd rfl this
  | cons => rfl
theorem wstr_eq {s : ByteArray} (h : s.size = 0) : (s.toList == []) = true := by
  rw [ByteArray.toList_eq]
  have : s.data.toList.length = 0 := by rw [bsize]; exact h
  rw [List.length_eq_zero_iff.1 this]
  rfl
set_option maxRecDepth 100000 in
set_option maxHeartbeats 2000000 in
/-- Nothing waits. -/
theorem takeA_calls (w0 w : World) (p : Nat) (c : PC) (bs : List UInt8) (h : Pt w0 w p c bs) (hw : c.wait.size = 0) :
    Calls Tryz.prog 33 #[.pointer (some ⟨p, 0, none⟩)] w fun e w' => e = .returned (.bool false) ∧ Pt w0 w' p c bs := by
  obtain ⟨a, v, hc⟩ := h.cells
  have HP := Lib.hid h
  have e1 : w.cell? ⟨p, 1, none⟩ = some (.string c.wait) := blkCell hc 1
  have e5 : w.cell? ⟨p, 5, none⟩ = some (.int .i64 c.adds) := blkCell hc 5
  have d0 := wstr_eq hw
  clear h hc hw
  by_cases ha : 0 < c.adds
  · go_enter Tryz.func33, Tryz.ntmps33
    go_wp2_with fail
    go_ret
    exact ⟨rfl, HP.out⟩
  · go_enter Tryz.func33, Tryz.ntmps33
    go_wp2_with fail
    go_ret
    exact ⟨rfl, HP.out⟩
/-- The head isn't all there. -/
theorem phead_short (w0 w : World) (p : Nat) (c : PC) (bs : List UInt8) (h : Pt w0 w p c bs) (hw : c.wait.size < 72) :
    Calls Tryz.prog 55 #[.pointer (some ⟨p, 0, none⟩)] w fun e w' => e = .returned (.bool false) ∧ Pt w0 w' p c bs := by
  obtain ⟨a, v, hc⟩ := h.cells
  have HP := Lib.hid h
  have e1 : w.cell? ⟨p, 1, none⟩ = some (.string c.wait) := blkCell hc 1
  have d0 : decide ((c.wait.size : Int) < 72) = true := decide_eq_true (by omega)
  clear h hc
  go_enter Tryz.func55, Tryz.ntmps55
  go_wp2_with fail
  go_ret
  exact ⟨rfl, HP.out⟩
set_option maxRecDepth 100000 in
set_option maxHeartbeats 2000000 in
theorem takeH_calls (w0 w : World) (p : Nat) (c c' : PC) (bs : List UInt8) (b : Bool) (h : Pt w0 w p c bs) (hw : c.wait.size ≠ 0) (ha : c.adds = 0) (hb : c.begun = false)
    (hh : Calls Tryz.prog 55 #[.pointer (some ⟨p, 0, none⟩)] w fun e w' => e = .returned (.bool b) ∧ Pt w0 w' p c' bs) :
    Calls Tryz.prog 33 #[.pointer (some ⟨p, 0, none⟩)] w fun e w' => e = .returned (.bool b) ∧ Pt w0 w' p c' bs := by
  obtain ⟨a, v, hc⟩ := h.cells
  have HH := Lib.hid hh
  have e1 : w.cell? ⟨p, 1, none⟩ = some (.string c.wait) := blkCell hc 1
  have e4 : w.cell? ⟨p, 4, none⟩ = some (.bool c.begun) := blkCell hc 4
  have e5 : w.cell? ⟨p, 5, none⟩ = some (.int .i64 c.adds) := blkCell hc 5
  rw [hb] at e4
  rw [ha] at e5
  have d0 := wstr_ne hw
  clear h hc hw hh hb ha
  go_enter Tryz.func33, Tryz.ntmps33
  go_wp2_with fail
  refine (HH.out).mono ?_
  rintro e w1 ⟨rfl, hp⟩
  go_wp2_with fail
  go_ret
  exact ⟨rfl, hp⟩
theorem takeB_cells {w0 w : World} {p : Nat} {c : PC} {bs : List UInt8} (h : Pt w0 w p c bs) :
    w.cell? ⟨p, 1, none⟩ = some (.string c.wait) ∧ w.cell? ⟨p, 5, none⟩ = some (.int .i64 c.adds) ∧ w.frozen? ⟨p, 1, none⟩ = false ∧ w.frozen? ⟨p, 5, none⟩ = false := by
  obtain ⟨a, v, hc⟩ := h.cells
  exact ⟨blkCell hc 1, blkCell hc 5, blkFree hc 1, blkFree hc 5⟩
set_option maxRecDepth 100000 in
set_option maxHeartbeats 2000000 in
/-- A part of an addition. -/
theorem takeB_calls (w0 w : World) (p k n : Nat) (c : PC) (bs : List UInt8) (h : Pt w0 w p c bs) (hw : c.wait.size ≠ 0) (ha : c.adds = k) (hk : 0 < k) (hn : n = min k c.wait.size) (hk2 : k ≤ 1048576) (hw2 : c.wait.size ≤ 1048576) (hbs : bs.length ≤ 1048576) :
    Calls Tryz.prog 33 #[.pointer (some ⟨p, 0, none⟩)] w fun e w' => e = .returned (.bool true) ∧ Pt w0 w' p { c with wait := c.wait.extract n c.wait.size, adds := (k - n : Nat) } (bs ++ (c.wait.extract 0 n).data.toList) := by
  obtain ⟨a, v, hc⟩ := h.cells
  have HP := Lib.hid h
  obtain ⟨old, wait, size, hash, begun, adds, seen⟩ := c
  simp only at *
  subst ha
  have HMIN : ∀ (ts : Array TypeId) (T : TypeId) (w : World), (Builtin.min_ ts T #[.int .i64 k, .int .i64 wait.size]).run Tryz.prog w = .ok (.int .i64 n) w := fun ts T w => by
    rw [run_min_int2 w ts T _ _ _ _]
    congr 2
    split <;> omega
  have q0 : (0 : Int) ≤ (n : Int) := by omega
  have q1 : (n : Int) ≤ (wait.size : Int) := by omega
  have e1 : w.cell? ⟨p, 1, none⟩ = some (.string wait) := blkCell hc 1
  have e5 : w.cell? ⟨p, 5, none⟩ = some (.int .i64 k) := blkCell hc 5
  have d0 := wstr_ne hw
  have d1 : decide ((0 : Int) < (k : Int)) = true := decide_eq_true (by omega)
  have hx : (wait.extract 0 n).size ≤ 1048576 := by rw [ByteArray.size_extract]; omega
  have HN := Lib.hid hn
  have k1 : IntKind.i64.wrap ((k : Int) - n) = ((k - n : Nat) : Int) := by rw [IntKind.wrap_i64]; omega
  have hpd : Pt w0 w.drew.drew p ⟨old, wait, size, hash, begun, k, seen⟩ bs := h.kept ((Chg.refl _ w).drew.drew)
  have C := Lib.hid (pwrite_calls w0 w.drew.drew p ⟨old, wait, size, hash, begun, k, seen⟩ bs (wait.extract 0 n) hpd (by omega))
  clear h hc hw hn hk2 hw2 hbs hx hpd
  go_enter Tryz.func33, Tryz.ntmps33
  go_wp2_with fail
  go_region
  go_wp2_with fail
  go_region_held3 (fun w' => w'.cell? ⟨p, 1, none⟩ = some (.string wait)) (first | exact e1 | exact g1)
    (first
      | (go_at_call 54; (with_reducible refine C.out.mono ?_); rintro e w5 ⟨⟨u, rfl⟩, hp⟩; obtain ⟨g1, g5, g1f, g5f⟩ := takeB_cells hp; have HQ := Lib.hid hp; clear hp)
      | fail "NOFIT")
  all_goals
    go_wp2_with fail
    go_ret
    refine ⟨rfl, HQ.out.set (((Chg.refl (fun j => j = p) _).setCell (p := ⟨p, 1, none⟩) (.inl rfl) _).setCell (p := ⟨p, 5, none⟩) (.inl rfl) _) (fun a v h => ?_)⟩
    exact blkSet (blkSet h 1 _) 5 _
end Go.Proofs.YtnhdlclicjmmnaaGreat
/- TopPatched: delta's take: a step that isn't all there; a copy; an addition's head. -/
namespace Go.Proofs.YtnhdlclicjmmnaaGreat
open Go.RowKit Go.Lib Go.Shelf
theorem idx0 (s : ByteArray) (x : UInt8) (hx : s.data.toList[0]? = some x) (w : World) : (Instr.index 9 (.string s) (.int .i64 0)).run Tryz.prog w = .ok (.int .u8 x.toNat) w := by
  have hx' : s.data[0]? = some x := by rw [← hx, Array.getElem?_toList]
  obtain ⟨h1, h2⟩ := Array.getElem?_eq_some_iff.1 hx'
  have hsz : 0 < s.size := h1
  rw [run_index_string w 9 s .i64 0 Tryz.underlying9, dif_pos ⟨by omega, by omega⟩]
  have : s.data[0] = x := h2
  show Result.ok (Value.int .u8 (s.data[0]).toNat) w = _
  rw [this]
theorem Pt.e0145 {w0 w : World} {p : Nat} {c : PC} {bs : List UInt8} (h : Pt w0 w p c bs) :
    w.cell? ⟨p, 0, none⟩ = some (.string c.old) ∧ w.cell? ⟨p, 1, none⟩ = some (.string c.wait) ∧ w.cell? ⟨p, 4, none⟩ = some (.bool c.begun) ∧ w.cell? ⟨p, 5, none⟩ = some (.int .i64 c.adds) := by
  obtain ⟨a, v, hc⟩ := h.cells
  exact ⟨blkCell hc 0, blkCell hc 1, blkCell hc 4, blkCell hc 5⟩
set_option maxRecDepth 100000 in
set_option maxHeartbeats 2000000 in
/-- A step that isn't all there. -/
theorem takeS_calls (w0 w : World) (p : Nat) (c : PC) (bs : List UInt8) (x : UInt8) (h : Pt w0 w p c bs) (hx : c.wait.data.toList[0]? = some x) (hk : (x = 1 ∧ c.wait.size < 7) ∨ (x = 2 ∧ c.wait.size < 3)) (ha : c.adds = 0) (hb : c.begun = true) :
    Calls Tryz.prog 33 #[.pointer (some ⟨p, 0, none⟩)] w fun e w' => e = .returned (.bool false) ∧ Pt w0 w' p c bs := by
  obtain ⟨e0, e1, e4, e5⟩ := h.e0145
  have HP := Lib.hid h
  have hsz : c.wait.size ≠ 0 := by
    intro e
    have : c.wait.data.toList.length = 0 := by rw [bsize]; exact e
    rw [List.length_eq_zero_iff.1 this] at hx
    cases hx
  have d0 := wstr_ne hsz
  have HI := idx0 c.wait x hx
  obtain ⟨old, wait, size, hash, begun, adds, seen⟩ := c
  simp only at *
  subst ha hb
  rcases hk with ⟨rfl, hk⟩ | ⟨rfl, hk⟩
  · have d1 : decide ((7 : Int) ≤ (wait.size : Int)) = false := decide_eq_false (by omega)
    have HI : ∀ w, (Instr.index 9 (.string wait) (.int .i64 0)).run Tryz.prog w = .ok (.int .u8 1) w := HI
    clear h hx hsz e0
    go_enter Tryz.func33, Tryz.ntmps33
    go_wp2_with fail
    go_ret
    exact ⟨rfl, HP.out⟩
  · have d1 : decide ((3 : Int) ≤ (wait.size : Int)) = false := decide_eq_false (by omega)
    have HI : ∀ w, (Instr.index 9 (.string wait) (.int .i64 0)).run Tryz.prog w = .ok (.int .u8 2) w := HI
    clear h hx hsz e0
    go_enter Tryz.func33, Tryz.ntmps33
    go_wp2_with fail
    go_ret
    exact ⟨rfl, HP.out⟩
end Go.Proofs.YtnhdlclicjmmnaaGreat

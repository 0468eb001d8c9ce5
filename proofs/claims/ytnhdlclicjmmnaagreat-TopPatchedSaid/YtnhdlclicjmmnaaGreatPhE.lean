/- TopPatched: a patcher of one's own: its cells; the Builder that lies in it: copyCheck, WriteString, String. -/
import Derived.Test.YtnhdlclicjmmnaaGreatPhC
import Derived.Test.YtnhdlclicjmmnaaGreatPdF
import Derived.Test.YtnhdlclicjmmnaaGreatPfB
import Derived.Test.YtnhdlclicjmmnaaGreatPdE
namespace Go.Proofs.YtnhdlclicjmmnaaGreat
open Go.RowKit Go.Lib Go.Shelf
/-- A patcher's fields, but for its Builder. -/
structure PC where
  old : ByteArray
  wait : ByteArray
  size : Int
  hash : ByteArray
  begun : Bool
  adds : Int
  seen : Int
def patC (c : PC) (a v : Value) : Array Value := #[.string c.old, .string c.wait, .int .i64 c.size, .string c.hash, .bool c.begun, .int .i64 c.adds, .int .i64 c.seen, a, v, .int .i64 0, .bool false]
/-- A patcher of one's own, laid behind w0; bs: what its Builder holds. -/
def Pt (w0 w : World) (p : Nat) (c : PC) (bs : List UInt8) : Prop :=
  w0.heap.size ≤ p ∧ ∃ a v r, (a = .pointer none ∨ a = .pointer (some ⟨p, 7, none⟩)) ∧ w.heap[p]? = some (.cells (patC c a v) 73 (0, 0)) ∧ Row w 5 v r bs ∧ (∀ k, r = some k → w0.heap.size ≤ k) ∧ Chg (fun _ => False) w0 w
theorem Pt.chg0 {w0 w : World} {p : Nat} {c : PC} {bs : List UInt8} (h : Pt w0 w p c bs) : Chg (fun _ => False) w0 w := by
  obtain ⟨_, _, _, _, _, _, _, _, h⟩ := h
  exact h
theorem Pt.kept {w0 w w1 : World} {p : Nat} {c : PC} {bs : List UInt8} (h : Pt w0 w p c bs) (g : Chg (fun _ => False) w w1) : Pt w0 w1 p c bs := by
  obtain ⟨h1, a, v, r, h2, h3, h4, h5, h6⟩ := h
  exact ⟨h1, a, v, r, h2, g.obj h3 (fun h => h), h4.chg g (fun _ _ h => h), h5, h6.trans g (fun _ h => .inl h)⟩
/-- A field of it is set (any but the Builder's). -/
theorem Pt.set {w0 w w1 : World} {p : Nat} {c c' : PC} {bs : List UInt8} (h : Pt w0 w p c bs) (g : Chg (fun k => k = p) w w1) (hs : ∀ a v, w.heap[p]? = some (.cells (patC c a v) 73 (0, 0)) → w1.heap[p]? = some (.cells (patC c' a v) 73 (0, 0))) : Pt w0 w1 p c' bs := by
  obtain ⟨h1, a, v, r, h2, h3, h4, h5, h6⟩ := h
  refine ⟨h1, a, v, r, h2, hs a v h3, h4.chg g (fun k hk e => ?_), h5, h6.trans g (fun k e => .inr (by rw [e]; exact h1))⟩
  subst e
  exact h4.ne h3 (by decide) hk
theorem Pt.lt {w0 w : World} {p : Nat} {c : PC} {bs : List UInt8} (h : Pt w0 w p c bs) : p < w.heap.size := by
  obtain ⟨_, a, v, r, _, h3, _⟩ := h
  exact blkLt h3
/-- What the cells are. -/
theorem Pt.cells {w0 w : World} {p : Nat} {c : PC} {bs : List UInt8} (h : Pt w0 w p c bs) : ∃ a v, w.heap[p]? = some (.cells (patC c a v) 73 (0, 0)) := by
  obtain ⟨_, a, v, r, _, h3, _⟩ := h
  exact ⟨a, v, h3⟩
theorem Pt.len {w0 w : World} {p : Nat} {c : PC} {bs : List UInt8} (h : Pt w0 w p c bs) : ∃ A k, w.cell? ⟨p, 8, none⟩ = some (.slice A bs.length k) := by
  obtain ⟨_, a, v, r, _, h3, h4, _⟩ := h
  have e : w.cell? ⟨p, 8, none⟩ = some v := blkCell h3 8
  obtain ⟨A, n, k, rfl⟩ := h4.slice
  have : n = bs.length := by
    rcases h4.1.2 with ⟨e1, e2⟩ | ⟨g, cap, cur, e1, _⟩
    · injection e1 with _ e3
      omega
    · injection e1
  exact ⟨A, k, by rw [e, this]⟩
set_option maxRecDepth 100000 in
theorem pcopyFresh (w : World) (p : Nat) (c : PC) (v : Value) (h : w.heap[p]? = some (.cells (patC c (.pointer none) v) 73 (0, 0))) :
    Calls Tryz.prog 81 #[.pointer (some ⟨p, 7, none⟩)] w fun e w' => e = .returned (.tuple #[]) ∧ w' = w.setCell ⟨p, 7, none⟩ (.pointer (some ⟨p, 7, none⟩)) := by
  have hc : w.cell? ⟨p, 7, none⟩ = some (.pointer none) := blkCell h 7
  have hf := blkFree h 7
  have hsh := shape_of h
  obtain ⟨j, hj, hjs⟩ := Option.map_eq_some_iff.1 (show (Tryz.prog.info? 71).map (·.size) = some 2 from by kernel_rfl)
  have m1 := Lib.run_to_unsafe w ⟨p, 7, none⟩ Tryz.underlying69 Tryz.underlying155 hj (by rw [hjs]; decide) hsh (by show 7 < 11; decide)
  have m2 := run_callFunc_extern (P := Tryz.prog) Tryz.func101 (by kernel_rfl) (by kernel_rfl) (by kernel_rfl) (e := Extern.AbiNoEscape.same) (by kernel_rfl) #[.pointer (some ⟨p, 7, none⟩)] w
  rw [Lib.run_noEscape] at m2
  have m3 := Lib.run_from_unsafe w ⟨p, 7, none⟩ Tryz.underlying155 Tryz.underlying69 hj hsh (by kernel_rfl)
  clear h hjs hj
  go_enter Tryz.func81, Tryz.ntmps81
  go_wp2_with fail
  go_end0
  exact ⟨rfl, rfl⟩
set_option maxRecDepth 100000 in
theorem pcopyUsed (w : World) (p : Nat) (c : PC) (v : Value) (h : w.heap[p]? = some (.cells (patC c (.pointer (some ⟨p, 7, none⟩)) v) 73 (0, 0))) :
    Calls Tryz.prog 81 #[.pointer (some ⟨p, 7, none⟩)] w fun e w' => e = .returned (.tuple #[]) ∧ w' = w := by
  have hc : w.cell? ⟨p, 7, none⟩ = some (.pointer (some ⟨p, 7, none⟩)) := blkCell h 7
  obtain ⟨j, hj, _⟩ := Option.map_eq_some_iff.1 (show (Tryz.prog.info? 71).map (·.size) = some 2 from by kernel_rfl)
  have m1 := Lib.run_neq_ptr_same w ⟨p, 7, none⟩ Tryz.underlying69 hj
  go_enter Tryz.func81, Tryz.ntmps81
  go_wp2_with fail
  go_end0
  exact ⟨rfl, rfl⟩
theorem pcopy_calls (w0 w : World) (p : Nat) (c : PC) (bs : List UInt8) (h : Pt w0 w p c bs) :
    Calls Tryz.prog 81 #[.pointer (some ⟨p, 7, none⟩)] w fun e w' => e = .returned (.tuple #[]) ∧ w0.heap.size ≤ p ∧ ∃ v r, w'.heap[p]? = some (.cells (patC c (.pointer (some ⟨p, 7, none⟩)) v) 73 (0, 0)) ∧ Row w' 5 v r bs ∧ (∀ k, r = some k → w0.heap.size ≤ k) ∧ Chg (fun _ => False) w0 w' := by
  obtain ⟨hb, a, v, r, rfl | rfl, hc, hr, hk, hg⟩ := h
  · refine (pcopyFresh w p c v hc).mono ?_
    rintro e w' ⟨rfl, rfl⟩
    have g1 : Chg (fun k => k = p) w (w.setCell ⟨p, 7, none⟩ (.pointer (some ⟨p, 7, none⟩))) := (Chg.refl (fun k => k = p) w).setCell (p := ⟨p, 7, none⟩) (.inl rfl) _
    refine ⟨rfl, hb, v, r, blkSet hc 7 _, hr.chg g1 (fun k e hkb => ?_), hk, hg.setCell (.inr hb) _⟩
    subst hkb
    exact hr.ne hc (by decide) e
  · refine (pcopyUsed w p c v hc).mono ?_
    rintro e w' ⟨rfl, rfl⟩
    exact ⟨rfl, hb, v, r, hc, hr, hk, hg⟩
set_option maxRecDepth 100000 in
theorem pwrite_calls (w0 w : World) (p : Nat) (c : PC) (bs : List UInt8) (s : ByteArray) (h : Pt w0 w p c bs) (hl : bs.length + s.size ≤ 140737488355328) :
    Calls Tryz.prog 54 #[.pointer (some ⟨p, 7, none⟩), .string s] w fun e w' => (∃ u, e = .returned u) ∧ Pt w0 w' p c (bs ++ s.data.toList) := by
  have H := Lib.hid h
  clear h
  go_enter Tryz.func54, Tryz.ntmps54
  go_wp2_with fail
  refine (pcopy_calls w0 w p c bs H.out).mono ?_
  rintro e w1 ⟨rfl, hb, v, r, hc, hr, hk, hg⟩
  have HC := Lib.hid hc
  have HK := Lib.hid hk
  have HG := Lib.hid hg
  obtain ⟨A0, m0, q0, rfl⟩ := hr.slice
  have c1 : w1.cell? ⟨p, 8, none⟩ = some (.slice A0 m0 q0) := blkCell hc 8
  have NE := Lib.hid (hr.ne hc (by decide))
  have HR := Lib.hid hr
  clear hc hk hg hr
  go_wp2_with (at_builtin; refine wpList_append_str w1 rfl (.tmp 12) (.tmp 13) 22 9 5 rfl Tryz.underlying22 Tryz.underlying9 info_u8 (.slice A0 m0 q0) r bs s rfl rfl HR.out hl ?_; intro A3 n3 c3 w3 r3 hrow hnext hgrow; have HROW := Lib.hid hrow; have HNEXT := Lib.hid hnext; have HGROW := Lib.hid hgrow; have HB := Lib.hid ((hgrow.block p (blkLt HC.out) (fun e => NE.out e.symm)).trans HC.out); have d1 : w3.cell? ⟨p, 8, none⟩ = some (.slice A0 m0 q0) := blkCell HB.out 8; have f1 := blkFree HB.out 8; clear hrow hnext hgrow)
  go_ret2
  have g3 : Chg (fun k => r = some k) w1 w3 := (Chg.refl _ w1).grown HGROW.out (fun _ hk => .inl hk)
  have NE3 : r3 ≠ some p := HROW.out.ne HB.out (by decide)
  have g4 : Chg (fun k => k = p) w3 (w3.setCell ⟨p, 8, none⟩ (.slice A3 n3 c3)) := (Chg.refl (fun k => k = p) w3).setCell (p := ⟨p, 8, none⟩) (.inl rfl) _
  refine ⟨⟨_, rfl⟩, hb, _, .slice A3 n3 c3, r3, .inr rfl, blkSet HB.out 8 _, HROW.out.chg g4 (fun k e hkb => NE3 (hkb ▸ e)), fun k e => ?_, ((HG.out.trans g3 (fun k hk => .inr (HK.out k hk))).setCell (p := ⟨p, 8, none⟩) (.inr hb) _)⟩
  rcases HNEXT.out with h1 | ⟨k', h1, h2⟩
  · exact HK.out k (h1 ▸ e)
  · rw [h1] at e
    obtain rfl : k' = k := by injection e
    exact Nat.le_trans HG.out.size h2
theorem Chg.freeze {S : Nat → Prop} {w w1 : World} (h : Chg S w w1) {p : Addr} (hp : S p.block ∨ w.heap.size ≤ p.block) (n : Nat) : Chg S w (w1.freeze p n) := by
  unfold World.freeze
  split
  · exact h
  · exact h.trans (S' := fun k => k = p.block) ⟨rfl, rfl, rfl, by simp, fun k _ hn => by
      simp only [Array.getElem?_modify]
      rw [if_neg (fun e => hn e.symm)]⟩ (fun k hk => by rw [hk]; exact hp)
/-- Block g has the bytes bs, frozen or not. -/
def RR (w : World) (g : Nat) (bs : List UInt8) : Prop := ∃ cur fr, w.heap[g]? = some (.cells cur 5 fr) ∧ bs.length ≤ cur.size ∧ ∀ (j : Nat) (b : UInt8), bs[j]? = some b → cur[j]? = some (Value.int .u8 b.toNat)
theorem RR.chg {S : Nat → Prop} {w w1 : World} {g : Nat} {bs : List UInt8} (h : RR w g bs) (c : Chg S w w1) (hn : ¬ S g) : RR w1 g bs := by
  obtain ⟨cur, fr, h1, h2⟩ := h
  exact ⟨cur, fr, c.obj h1 hn, h2⟩
theorem RR.freeze {w : World} {g : Nat} {bs : List UInt8} (h : RR w g bs) (n : Nat) : RR (w.freeze ⟨g, 0, none⟩ n) g bs := by
  obtain ⟨cur, fr, h1, h2⟩ := h
  unfold World.freeze
  split
  · exact ⟨cur, fr, h1, h2⟩
  · exact ⟨cur, _, by simp [Array.getElem?_modify, h1]; rfl, h2⟩
set_option maxHeartbeats 1000000 in
theorem pstring_calls (w : World) (p g cap : Nat) (l : List UInt8) (h8 : w.cell? ⟨p, 8, none⟩ = some (.slice (some ⟨g, 0, none⟩) l.length cap)) (hcap : l.length ≤ cap) (hm : l.length ≤ 1000000) (hg : RR w g l) (h0 : l ≠ []) :
    Calls Tryz.prog 35 #[.pointer (some ⟨p, 7, none⟩)] w fun e w' => e = .returned (.string (strOf l)) ∧ RR w' g l ∧ Chg (fun k => k = g) w w' := by
  have hl0 : l.length ≠ 0 := by simpa using h0
  have c1 : w.drew.cell? ⟨p, 8, none⟩ = some (.slice (some ⟨g, 0, none⟩) l.length cap) := h8
  have hSD : (Builtin.unsafeSliceData_ #[22] 111 #[.slice (some ⟨g, 0, none⟩) l.length cap]).run Tryz.prog w.drew = .ok (.pointer (some ⟨g, 0, none⟩)) w.drew :=
    Lib.run_unsafeSliceData_row _ _ _ _ _ _ (by omega)
  have hUS : (Builtin.unsafeString_ #[111, 3] 9 #[.pointer (some ⟨g, 0, none⟩), .int .i64 l.length]).run Tryz.prog w.drew = .ok (.string ⟨l.toArray⟩) (w.drew.freeze ⟨g, 0, none⟩ l.length) := by
    obtain ⟨cur, fr, hb, hsz, hc⟩ := hg
    have hbd : w.drew.heap[g]? = some (.cells cur 5 fr) := hb
    refine Lib.run_unsafeString_row w.drew 111 3 9 5 Tryz.underlying111 (by kernel_rfl) g cur.size (by simp [World.shape?, hbd]) l h0 (by omega) (by omega) ?_
    intro j x hx
    have hj : w.drew.cell? ⟨g, j, none⟩ = some (.int .u8 x.toNat) := by simp [World.cell?, hbd, hc j x hx]
    rw [Addr.add]
    by_cases e : j = 0
    · subst e
      simpa using hj
    · simpa [e] using hj
  have HF : Hid (Chg (fun k => k = g) w (w.drew.freeze ⟨g, 0, none⟩ l.length)) := Lib.hid (Chg.freeze (S := fun k => k = g) (Chg.refl _ w).drew (p := ⟨g, 0, none⟩) (.inl rfl) _)
  have HR : Hid (RR (w.drew.freeze ⟨g, 0, none⟩ l.length) g l) := Lib.hid (RR.freeze (w := w.drew) hg _)
  clear hl0 hg
  go_enter Tryz.func35, Tryz.ntmps35
  go_wp2
  go_region
  all_goals (go_wp2; go_ret; exact ⟨rfl, HR.out, HF.out⟩)
end Go.Proofs.YtnhdlclicjmmnaaGreat
/- TopPatched: delta's head. -/
namespace Go.Proofs.YtnhdlclicjmmnaaGreat
open Go.RowKit Go.Lib Go.Shelf
/-- A patcher of one's own, and a reader made behind it. -/
def PR (w0 w : World) (p : Nat) (c : PC) (bs : List UInt8) (R : Nat) (x : RS) : Prop := Pt w0 w p c bs ∧ w0.heap.size ≤ R ∧ RdAt w 159 R x
theorem Pt.by_ {w0 w w1 : World} {p R : Nat} {c : PC} {bs : List UInt8} {cs : Array Value} {T : TypeId} (h : Pt w0 w p c bs) (hR : w.heap[R]? = some (.cells cs T (0, 0))) (h1 : 73 ≠ T) (h2 : T ≠ 5) (hle : w0.heap.size ≤ R) (g : Chg (fun k => k = R) w w1) : Pt w0 w1 p c bs := by
  obtain ⟨a1, a, v, r, a2, a3, a4, a5, a6⟩ := h
  refine ⟨a1, a, v, r, a2, g.obj a3 (blkNe a3 hR h1), a4.chg g (fun k hk e => ?_), a5, a6.trans g (fun k e => .inr (by rw [e]; exact hle))⟩
  subst e
  exact a4.ne hR h2 hk
theorem PR.next {w0 w w1 : World} {p R : Nat} {c : PC} {bs : List UInt8} {x y : RS} (h : PR w0 w p c bs R x) (h1 : RdAt w1 159 R y) (g : Chg (fun k => k = R) w w1) : PR w0 w1 p c bs R y :=
  ⟨h.1.by_ h.2.2 (by decide) (by decide) h.2.1 g, h.2.1, h1⟩
theorem pr_Byte (w0 w : World) (p R : Nat) (c : PC) (bs : List UInt8) (x : RS) (h : PR w0 w p c bs R x) (hx : x.1.size ≤ 1048576) :
    Calls Tryz.prog 57 #[.pointer (some ⟨R, 0, none⟩)] w fun e w' => e = .returned (.int .i64 (numF x 1).1) ∧ PR w0 w' p c bs R (numF x 1).2 :=
  (Byte_calls w R x h.2.2 (by omega)).mono fun e w' ⟨he, h1, g⟩ => ⟨he, h.next h1 g⟩
theorem pr_Two (w0 w : World) (p R : Nat) (c : PC) (bs : List UInt8) (x : RS) (h : PR w0 w p c bs R x) (hx : x.1.size ≤ 1048576) :
    Calls Tryz.prog 59 #[.pointer (some ⟨R, 0, none⟩)] w fun e w' => e = .returned (.int .i64 (numF x 2).1) ∧ PR w0 w' p c bs R (numF x 2).2 :=
  (Two_calls w R x h.2.2 (by omega)).mono fun e w' ⟨he, h1, g⟩ => ⟨he, h.next h1 g⟩
theorem pr_Four (w0 w : World) (p R : Nat) (c : PC) (bs : List UInt8) (x : RS) (h : PR w0 w p c bs R x) (hx : x.1.size ≤ 1048576) :
    Calls Tryz.prog 58 #[.pointer (some ⟨R, 0, none⟩)] w fun e w' => e = .returned (.int .i64 (numF x 4).1) ∧ PR w0 w' p c bs R (numF x 4).2 :=
  (Four_calls w R x h.2.2 (by omega)).mono fun e w' ⟨he, h1, g⟩ => ⟨he, h.next h1 g⟩
theorem pr_Hash (w0 w : World) (p R : Nat) (c : PC) (bs : List UInt8) (x : RS) (h : PR w0 w p c bs R x) :
    Calls Tryz.prog 82 #[.pointer (some ⟨R, 0, none⟩)] w fun e w' => e = .returned (.string (rawF x 32).1) ∧ PR w0 w' p c bs R (rawF x 32).2 :=
  (Hash_calls w R x h.2.2).mono fun e w' ⟨he, h1, g⟩ => ⟨he, h.next h1 g⟩
theorem pr_cut (w0 w : World) (p n : Nat) (c : PC) (bs : List UInt8) (h : Pt w0 w p c bs) (hn : n ≤ c.wait.size) :
    Calls Tryz.prog 56 #[.pointer (some ⟨p, 0, none⟩), .int .i64 n] w fun e w' => ∃ R, e = .returned (.pointer (some ⟨R, 0, none⟩)) ∧ PR w0 w' p { c with wait := c.wait.extract n c.wait.size } bs R (c.wait.extract 0 n, 0) := by
  obtain ⟨a, v, hc⟩ := h.cells
  refine (pcut_calls w p _ c.wait n hc rfl hn).mono ?_
  rintro e w' ⟨rfl, h1, h2, h3⟩
  refine ⟨_, rfl, h.set h3 (fun a1 v1 h4 => ?_), h.chg0.size, h1⟩
  rw [hc] at h4
  have e1 := (Obj.cells.inj (Option.some.inj h4)).1
  have ea : a = a1 := by
    have := congrArg (fun x => x[7]?) e1
    exact Option.some.inj this
  have ev : v = v1 := by
    have := congrArg (fun x => x[8]?) e1
    exact Option.some.inj this
  rw [← ea, ← ev, h2]
  rfl
/-- A patch's head. -/
def hdL (old text : ByteArray) : List UInt8 := numBytes (old.size : Int) 4 ++ ((sumF [old]).data.toList ++ (numBytes (text.size : Int) 4 ++ (sumF [text]).data.toList))
theorem hdL_len (old text : ByteArray) : (hdL old text).length = 72 := by
  have h1 : (sumF [old]).data.toList.length = 32 := by rw [bsize, sumF_size]
  have h2 : (sumF [text]).data.toList.length = 32 := by rw [bsize, sumF_size]
  simp only [hdL, List.length_append, numBytes_len, h1, h2]
theorem fits4 (n : Nat) (h : n ≤ 1048576) : fits (n : Int) 4 := ⟨by omega, fun _ => by simp only [Nat.reduceMul, Int.reducePow]; omega⟩
theorem fits2n (n : Nat) (h : n ≤ 65535) : fits (n : Int) 2 := ⟨by omega, fun _ => by simp only [Nat.reduceMul, Int.reducePow]; omega⟩
theorem hd1 (old text : ByteArray) (h : old.size ≤ 8192) : numF (strOf (hdL old text), 0) 4 = ((old.size : Int), strOf ((sumF [old]).data.toList ++ (numBytes (text.size : Int) 4 ++ (sumF [text]).data.toList)), 0) :=
  num_laid old.size 4 _ (fits4 _ (by omega)) (by omega) (by omega)
theorem hd2 (old text : ByteArray) : rawF (strOf ((sumF [old]).data.toList ++ (numBytes (text.size : Int) 4 ++ (sumF [text]).data.toList)), 0) 32 = (sumF [old], strOf (numBytes (text.size : Int) 4 ++ (sumF [text]).data.toList), 0) := by
  rw [raw_laid' _ _ 32 (by rw [bsize, sumF_size]; rfl), strOf_data]
theorem hd3 (text : ByteArray) (h : text.size ≤ 8192) : numF (strOf (numBytes (text.size : Int) 4 ++ (sumF [text]).data.toList), 0) 4 = ((text.size : Int), strOf (sumF [text]).data.toList, 0) :=
  num_laid text.size 4 _ (fits4 _ (by omega)) (by omega) (by omega)
theorem hd4 (text : ByteArray) : ∃ y, rawF (strOf (sumF [text]).data.toList, 0) 32 = (sumF [text], y) := by
  have := raw_laid' (sumF [text]).data.toList [] 32 (by rw [bsize, sumF_size]; rfl)
  rw [List.append_nil, strOf_data] at this
  rw [strOf_data]
  exact ⟨_, this⟩
set_option maxRecDepth 100000 in
set_option maxHeartbeats 2000000 in
theorem phead_calls (w0 w : World) (p : Nat) (c : PC) (text : ByteArray) (bs : List UInt8) (h : Pt w0 w p c bs) (hos : c.old.size ≤ 8192) (hts : text.size ≤ 8192) (hw : 72 ≤ c.wait.size) (hh : c.wait.extract 0 72 = strOf (hdL c.old text)) :
    Calls Tryz.prog 55 #[.pointer (some ⟨p, 0, none⟩)] w fun e w' => e = .returned (.bool true) ∧ Pt w0 w' p { c with wait := c.wait.extract 72 c.wait.size, size := text.size, hash := sumF [text], begun := true } bs := by
  have C1 := Lib.hid (pr_cut w0 w p 72 c bs h hw)
  rw [hh] at C1
  obtain ⟨a, v, hc⟩ := h.cells
  have e1 : w.cell? ⟨p, 1, none⟩ = some (.string c.wait) := blkCell hc 1
  have d0 : decide ((c.wait.size : Int) < 72) = false := decide_eq_false (by omega)
  have d1 : decide ((8192 : Int) < (text.size : Int)) = false := decide_eq_false (by omega)
  have z1 : (strOf (hdL c.old text)).size ≤ 1048576 := by rw [strOf_size, hdL_len]; decide
  have s1 : (sumF [c.old]).size = 32 := sumF_size _
  have s2 : (sumF [text]).size = 32 := sumF_size _
  have z2 : (strOf ((sumF [c.old]).data.toList ++ (numBytes (text.size : Int) 4 ++ (sumF [text]).data.toList))).size ≤ 1048576 := by
    rw [strOf_size]; simp only [List.length_append, numBytes_len, bsize, s1, s2]; omega
  have z3 : (strOf (numBytes (text.size : Int) 4 ++ (sumF [text]).data.toList)).size ≤ 1048576 := by
    rw [strOf_size]; simp only [List.length_append, numBytes_len, bsize, s2]; omega
  have hb0 : tot [c.old] ≤ 140737488350000 := by
    show c.old.size + 0 ≤ _
    omega
  have CS := Lib.hid (fun (w : World) (n : Nat) (q : StrsIn w (some ⟨n, 0, none⟩) [c.old]) => Sum_calls w (some ⟨n, 0, none⟩) 1 1 [c.old] q rfl hb0)
  have H1 := Lib.hid (hd1 c.old text hos)
  have H2 := Lib.hid (hd2 c.old text)
  have H3 := Lib.hid (hd3 text hts)
  obtain ⟨y4, H4⟩ := hd4 text
  have H4 := Lib.hid H4
  have d2 : ((c.old.size : Int) != (c.old.size : Int)) = false := by simp
  have d3 : ((c.old.size : Int) == (c.old.size : Int)) = true := by simp
  obtain ⟨old, wait, size, hash, begun, adds, seen⟩ := c
  simp only at *
  obtain ⟨x0, hx0⟩ : ∃ x, strOf (hdL old text) = x := ⟨_, rfl⟩
  obtain ⟨x1, hx1⟩ : ∃ x, strOf ((sumF [old]).data.toList ++ (numBytes (text.size : Int) 4 ++ (sumF [text]).data.toList)) = x := ⟨_, rfl⟩
  obtain ⟨x2, hx2⟩ : ∃ x, strOf (numBytes (text.size : Int) 4 ++ (sumF [text]).data.toList) = x := ⟨_, rfl⟩
  obtain ⟨x3, hx3⟩ : ∃ x, strOf (sumF [text]).data.toList = x := ⟨_, rfl⟩
  rw [hx0] at C1 z1 H1
  rw [hx1] at H1 z2 H2
  rw [hx2] at H2 z3 H3
  rw [hx3] at H3 H4
  obtain ⟨S1, hS1⟩ : ∃ S, sumF [old] = S := ⟨_, rfl⟩
  obtain ⟨S2, hS2⟩ : ∃ S, sumF [text] = S := ⟨_, rfl⟩
  rw [hS1] at CS H2 s1
  rw [hS2] at H4 s2 ⊢
  obtain ⟨wait2, hwait2⟩ : ∃ x, wait.extract 72 wait.size = x := ⟨_, rfl⟩
  rw [hwait2] at C1 ⊢
  clear hx0 hx1 hx2 hx3 hS1 hS2 hwait2 s1 s2 hh hw hc h hb0
  go_enter Tryz.func55, Tryz.ntmps55
  go_wp2_with fail
  refine (C1.out).mono ?_
  rintro e w1 ⟨R, rfl, hp⟩
  have HP := Lib.hid hp
  clear hp e1 d0 C1
  go_wp2_with fail
  refine (pr_Four _ _ _ _ _ _ _ HP.out z1).mono ?_
  rw [H1.out]
  rintro e w2 ⟨rfl, hp⟩
  have HP := Lib.hid hp
  clear hp
  go_wp2_with fail
  refine (pr_Hash _ _ _ _ _ _ _ HP.out).mono ?_
  rw [H2.out]
  rintro e w3 ⟨rfl, hp⟩
  have HP := Lib.hid hp
  clear hp
  go_wp2_with fail
  refine (pr_Four _ _ _ _ _ _ _ HP.out z3).mono ?_
  rw [H3.out]
  rintro e w4 ⟨rfl, hp⟩
  have HP := Lib.hid hp
  clear hp
  go_wp2_with fail
  refine (pr_Hash _ _ _ _ _ _ _ HP.out).mono ?_
  rw [H4.out]
  rintro e w5 ⟨rfl, hp⟩
  obtain ⟨a5, v5, hc5⟩ := hp.1.cells
  have HC5 := Lib.hid hc5
  have HP := Lib.hid hp.1
  have f2 := blkFree hc5 2
  have f3 := blkFree hc5 3
  have f4 := blkFree hc5 4
  have e0 : w5.cell? ⟨p, 0, none⟩ = some (.string old) := blkCell hc5 0
  have e2 : w5.cell? ⟨p, 2, none⟩ = some (.int .i64 size) := blkCell hc5 2
  have e3 : w5.cell? ⟨p, 3, none⟩ = some (.string hash) := blkCell hc5 3
  have e4 : w5.cell? ⟨p, 4, none⟩ = some (.bool begun) := blkCell hc5 4
  clear hp hc5 H1 H2 H3 H4
  go_wp2_with fail
  obtain ⟨W, hW⟩ : ∃ W, ((w5.setCell ⟨p, 2, none⟩ (.int .i64 text.size)).setCell ⟨p, 3, none⟩ (.string S2)).setCell ⟨p, 4, none⟩ (.bool true) = W := ⟨_, rfl⟩
  have hz : w5.heap.size = W.heap.size := by rw [← hW]; simp [World.setCell]
  have hP : Pt w0 W p { old := old, wait := wait2, size := text.size, hash := S2, begun := true, adds := adds, seen := seen } bs := by
    refine HP.out.set (w1 := W) ?_ (fun a v h => ?_)
    · rw [← hW]
      exact (((Chg.refl (fun k => k = p) w5).setCell (p := ⟨p, 2, none⟩) (.inl rfl) _).setCell (p := ⟨p, 3, none⟩) (.inl rfl) _).setCell (p := ⟨p, 4, none⟩) (.inl rfl) _
    · rw [← hW]
      exact blkSet (blkSet (blkSet h 2 _) 3 _) 4 _
  have HP := Lib.hid hP
  rw [hW, hz]
  clear hW hz hP HC5 e0 e2 e3 e4 f2 f3 f4 d1 d2
  refine (CS.out _ _ (strsIn1 _ _)).mono ?_
  rintro e w6 ⟨rfl, hg⟩
  have HP := Lib.hid (HP.out.kept (((Chg.refl (fun _ => False) W).alloc _).trans hg (fun _ h => h.elim)))
  clear hg CS
  go_wp2_with fail
  go_ret
  exact ⟨rfl, HP.out⟩
end Go.Proofs.YtnhdlclicjmmnaaGreat

/- TopPatched: bill's Whole of the whole text, Fits of a chunk that fits. -/
import Derived.Test.YtnhdlclicjmmnaaGreatPgB
import Derived.Deep.RegionHeld3
import Derived.Test.YtnhdlclicjmmnaaGreatPdD
import Derived.Great.FillDense
import Derived.Great.BuildSlice
namespace Go.Proofs.YtnhdlclicjmmnaaGreat
open Go.RowKit Go.Lib Go.Shelf
theorem strsIn1 (w : World) (x : ByteArray) : StrsIn (w.alloc (.cells #[.string x] 9)) (some ⟨w.heap.size, 0, none⟩) [x] :=
  ⟨by simp, fun _ => ⟨_, rfl, fun j s hj => by
    match j, hj with
    | 0, hj => injection hj with hj; subst hj; exact blkCell (blkAlloc w _) 0⟩⟩
theorem strsIn1d (w : World) (x : ByteArray) : StrsIn (w.alloc (.cells #[.string x] 9)).drew (some ⟨w.heap.size, 0, none⟩) [x] :=
  ⟨by simp, fun _ => ⟨_, rfl, fun j s hj => by
    match j, hj with
    | 0, hj => injection hj with hj; subst hj; exact blkCell (blkAlloc w _) 0⟩⟩
set_option maxHeartbeats 2000000 in
theorem Whole_calls (w : World) (v s c : Int) (h t x : ByteArray) (A : Option Addr) (cap : Nat) (r : Option Nat) (l : List ByteArray) (hr : TRow w (.slice A l.length cap) r l) (hl : l.length ≤ 1048576) (hs : ∀ x ∈ l, x.size ≤ 1048576) (hE : checkE v s c h t l = 0) (hx : (x.size : Int) = s) (hh : sumF [x] = h) :
    Calls Tryz.prog 9 #[.agg #[.int .i64 v, .int .i64 s, .int .i64 c, .string h, .string t, .slice A l.length cap], .string x] w fun e w' => e = .returned (.int .i64 0) ∧ Chg (fun _ => False) w w' := by
  obtain ⟨_, _, s1, s2, _, _, _⟩ := checkE_range hE
  have hb0 : tot [x] ≤ 140737488350000 := by
    show x.size + 0 ≤ _
    omega
  have C2 := Lib.hid (fun (w : World) (n : Nat) (q : StrsIn w (some ⟨n, 0, none⟩) [x]) => Sum_calls w (some ⟨n, 0, none⟩) 1 1 [x] q rfl hb0)
  rw [hh] at C2
  subst hx
  clear s1 s2 hh hb0
  obtain ⟨b, hb⟩ : ∃ b, w.heap.size = b := ⟨_, rfl⟩
  obtain ⟨W, hW⟩ : ∃ W, w.alloc (.cells #[.int .i64 v, .int .i64 x.size, .int .i64 c, .string h, .string t, .slice A l.length cap] 27) = W := ⟨_, rfl⟩
  have hz : W.heap[b]? = some (.cells #[.int .i64 v, .int .i64 x.size, .int .i64 c, .string h, .string t, .slice A l.length cap] 27 (0, 0)) := by rw [← hW, ← hb]; exact blkAlloc w _
  have hg : Chg (fun _ => False) w W := by rw [← hW]; exact (Chg.refl _ w).alloc _
  have C := Lib.hid (Check_calls W v x.size c h t A cap r l (SRow.chg hr hg (fun _ _ h => h)) hl hs)
  rw [hE] at C
  have HG := Lib.hid hg
  have HZ := Lib.hid hz
  clear hr hl hs hE hg
  have q0 := blkCell hz 0
  have q1 := blkCell hz 1
  have q2 := blkCell hz 2
  have q3 := blkCell hz 3
  have q4 := blkCell hz 4
  have q5 := blkCell hz 5
  clear hz
  go_enter Tryz.func9, Tryz.ntmps9
  go_wp2_with fail
  (with_reducible refine (C.out).mono ?_)
  rintro e w1 ⟨rfl, hc⟩
  have G := Lib.hid (HG.out.trans hc (fun _ h => h.elim))
  have hz1 := hc.obj HZ.out (fun h => h)
  have D := Lib.hid (Chg.refl (fun _ => False) w1)
  have CB := Lib.hid (fun (w' : World) (c : Chg (fun _ => False) w1 w') => (blkCell (c.obj hz1 (fun h => h)) 3 : w'.cell? ⟨b, 3, none⟩ = some (.string h)))
  have e1 := blkCell hz1 1
  have e3 := blkCell hz1 3
  clear hc hz1
  go_wp2_with fail
  go_region_held3 (fun w' => w'.cell? ⟨b, 3, none⟩ = some (.string h)) (first | exact CB.out _ D.out | exact CB.out _ D.out.drew | exact CB.out _ (D.out.alloc _) | exact CB.out _ (D.out.drew.alloc _))
    (first
      | (go_at_call 20; refine (C2.out _ _ (by first | exact strsIn1 _ _ | exact strsIn1d _ _)).mono ?_; rintro e w5 ⟨rfl, hg⟩; have D := Lib.hid (Chg.trans (by first | exact D.out.alloc _ | exact D.out.drew.alloc _ | exact (D.out.alloc _).drew) hg (fun _ h => h.elim)); clear hg)
      | fail "NOFIT")
  all_goals
    go_wp2_with fail
    go_ret
    exact ⟨rfl, G.out.trans D.out (fun _ h => h.elim)⟩
end Go.Proofs.YtnhdlclicjmmnaaGreat
/- TopPatched: bill's Fits of a chunk that fits. -/
namespace Go.Proofs.YtnhdlclicjmmnaaGreat
open Go.RowKit Go.Lib Go.Shelf
set_option maxHeartbeats 2000000 in
theorem Fits_calls (w : World) (v s c : Int) (i : Nat) (h t x y : ByteArray) (A : Option Addr) (cap : Nat) (r : Option Nat) (l : List ByteArray) (hr : TRow w (.slice A l.length cap) r l) (hl : l.length ≤ 1048576) (hs : ∀ x ∈ l, x.size ≤ 1048576) (hE : checkE v s c h t l = 0) (hi : (i : Int) < cntF s c) (hy : l[i]? = some y) (hx : (x.size : Int) = cutHi s c i - i * c) (hh : tleafF x = y) :
    Calls Tryz.prog 17 #[.agg #[.int .i64 v, .int .i64 s, .int .i64 c, .string h, .string t, .slice A l.length cap], .int .i64 i, .string x] w fun e w' => e = .returned (.int .i64 0) ∧ Chg (fun _ => False) w w' := by
  obtain ⟨_, _, s1, s2, hc, _, _⟩ := checkE_range hE
  obtain ⟨c1, c2⟩ := partN_range hc
  obtain ⟨m0, m1⟩ := cut_small s2 c2 s1 (by omega) (by omega) hi
  have hl0 : i < l.length := (List.getElem?_eq_some_iff.1 hy).1
  have hcut : 0 ≤ cutHi s c i ∧ cutHi s c i ≤ 8192 := by unfold cutHi; split <;> omega
  have hcut0 : ¬ cutHi s c i = 0 := by
    intro e
    unfold cutHi at e
    split at e <;> omega
  have hxs : x.size ≤ 1048576 := by omega
  have k1 : IntKind.i64.wrap (cutHi s c i - i * c) = x.size := by rw [IntKind.wrap_i64]; omega
  obtain ⟨hi2, hhi⟩ : ∃ z, cutHi s c i = z := ⟨_, rfl⟩
  obtain ⟨lo, hlo⟩ : ∃ z, (i : Int) * c = z := ⟨_, rfl⟩
  have d0 : ((hi2 : Int) == 0) = false := by rw [← hhi]; simpa using hcut0
  have d1 : ((l.length : Int) == 0) = false := beq_eq_false_iff_ne.2 (by omega)
  have q8 : (0 : Int) ≤ (i : Int) := by omega
  have q9 : (i : Int) < (l.length : Int) := by omega
  have C2 := Lib.hid (fun (w : World) => tLeaf_calls w x hxs)
  rw [hh] at C2
  obtain ⟨b, hb⟩ : ∃ b, w.heap.size = b := ⟨_, rfl⟩
  obtain ⟨W, hW⟩ : ∃ W, w.alloc (.cells #[.int .i64 v, .int .i64 s, .int .i64 c, .string h, .string t, .slice A l.length cap] 27) = W := ⟨_, rfl⟩
  have hz : W.heap[b]? = some (.cells #[.int .i64 v, .int .i64 s, .int .i64 c, .string h, .string t, .slice A l.length cap] 27 (0, 0)) := by rw [← hW, ← hb]; exact blkAlloc w _
  have hg : Chg (fun _ => False) w W := by rw [← hW]; exact (Chg.refl _ w).alloc _
  have hrW : TRow W (.slice A l.length cap) r l := SRow.chg hr hg (fun _ _ h => h)
  have C := Lib.hid (Cut_calls W v s c i h t A cap r l hrW hl hs hE (by omega) hi)
  rw [hhi, hlo] at C
  rw [hhi, hlo] at k1
  have HG := Lib.hid hg
  have HZ := Lib.hid hz
  have HRW := Lib.hid hrW
  obtain ⟨g, cur, rfl, _⟩ := hrW.at_ (by omega)
  clear hr hl hs hE hg hx hh s1 s2 hc c1 c2 m0 m1 hl0 hcut hcut0 hxs hhi hlo hi hrW
  have HY := Lib.hid hy
  clear hy
  have q0 := blkCell hz 0
  have q1 := blkCell hz 1
  have q2 := blkCell hz 2
  have q3 := blkCell hz 3
  have q4 := blkCell hz 4
  have q5 := blkCell hz 5
  clear hz
  go_enter Tryz.func17, Tryz.ntmps17
  go_wp2_with fail
  (with_reducible refine (C.out).mono ?_)
  rintro e w1 ⟨rfl, hc⟩
  have G := Lib.hid (HG.out.trans hc (fun _ h => h.elim))
  have hz1 := hc.obj HZ.out (fun h => h)
  have hr1 : TRow w1 (.slice (some ⟨g, 0, none⟩) l.length cap) r l := SRow.chg HRW.out hc (fun _ _ h => h)
  have D := Lib.hid (Chg.refl (fun _ => False) w1)
  have CB := Lib.hid (fun (w' : World) (c : Chg (fun _ => False) w1 w') => (⟨blkCell (c.obj hz1 (fun h => h)) 5, TRow.cell (SRow.chg hr1 c (fun _ _ h => h)) i y HY.out⟩ : w'.cell? ⟨b, 5, none⟩ = some (.slice (some ⟨g, 0, none⟩) l.length cap) ∧ w'.cell? ⟨g, i, none⟩ = some (.string y)))
  have e5 := blkCell hz1 5
  obtain ⟨f5, f6⟩ := CB.out _ (Chg.refl _ _)
  clear hc hz1 hr1
  go_wp2_with fail
  go_region_held3 (fun w' => w'.cell? ⟨b, 5, none⟩ = some (.slice (some ⟨g, 0, none⟩) l.length cap) ∧ w'.cell? ⟨g, i, none⟩ = some (.string y)) (first | exact CB.out _ D.out | exact CB.out _ D.out.drew | exact CB.out _ (D.out.alloc _) | exact CB.out _ (D.out.drew.alloc _))
    (first
      | (go_at_call 22; refine (C2.out _).mono ?_; rintro e w5 ⟨rfl, hg⟩; have D := Lib.hid (Chg.trans (by first | exact D.out | exact D.out.drew) hg (fun _ h => h.elim)); clear hg)
      | fail "NOFIT")
  all_goals
    go_wp2_with fail
    go_ret
    exact ⟨rfl, G.out.trans D.out (fun _ h => h.elim)⟩
end Go.Proofs.YtnhdlclicjmmnaaGreat
/- TopPatched: fetch's Image, where nothing is missing. -/
namespace Go.Proofs.YtnhdlclicjmmnaaGreat
open Go.RowKit Go.Lib Go.Shelf
theorem FB.text {w : World} {g c : Nat} {l : List UInt8} (h : FB w (.slice (some ⟨g, 0, none⟩) l.length c) g l) : (convert 22 9 (.slice (some ⟨g, 0, none⟩) l.length c)).run Tryz.prog w = .ok (.string ⟨l.toArray⟩) w :=
  run_convert_bytes_back w 22 9 5 ⟨g, 0, none⟩ c l Tryz.underlying22 Tryz.underlying5 Tryz.underlying9 (fun j hj => by
    have := h.cell (List.getElem?_eq_getElem hj)
    rw [Addr.add]
    by_cases e : j = 0
    · subst e
      simpa using this
    · simpa [e] using this)
set_option maxHeartbeats 2000000 in
theorem Image_calls (w : World) (f : Nat) (cp : Value) (v s c : Int) (h t : ByteArray) (A : Option Addr) (cap : Nat) (r : Option Nat) (l : List ByteArray) (gh ch gd cd : Nat) (hv d : List UInt8)
    (hf : w.heap[f]? = some (.cells #[cp, .int .i64 v, .int .i64 s, .int .i64 c, .string h, .string t, .slice A l.length cap, .slice (some ⟨gh, 0, none⟩) hv.length ch, .slice (some ⟨gd, 0, none⟩) d.length cd] 85 (0, 0)))
    (hh : FB w (.slice (some ⟨gh, 0, none⟩) hv.length ch) gh hv) (hd : FB w (.slice (some ⟨gd, 0, none⟩) d.length cd) gd d) (hr : TRow w (.slice A l.length cap) r l) (hl : l.length ≤ 1048576) (hs : ∀ x ∈ l, x.size ≤ 1048576) (hE : checkE v s c h t l = 0)
    (hn : 1 ≤ hv.length) (hn2 : hv.length ≤ 1000) (hm : missT hv hv.length = []) (hx : (d.length : Int) = s) (hsum : sumF [⟨d.toArray⟩] = h) :
    Calls Tryz.prog 18 #[.pointer (some ⟨f, 0, none⟩)] w fun e w' => e = .returned (.tuple #[.string ⟨d.toArray⟩, .int .i64 0]) ∧ Chg (fun _ => False) w w' := by
  have C1 := Lib.hid (Missing_calls w f gh ch hv hh (blkCell hf 7) hn2)
  rw [hm] at C1
  have C2 := Lib.hid (fun (w1 : World) (hg : Chg (fun _ => False) w w1) => Whole_calls w1 v s c h t ⟨d.toArray⟩ A cap r l (SRow.chg hr hg (fun _ _ h => h)) hl hs hE (by rw [← hx]; simp [ByteArray.size]) hsum)
  have HF := Lib.hid hf
  have HD := Lib.hid hd
  have d0 : ((hv.length : Int) == 0) = false := beq_eq_false_iff_ne.2 (by omega)
  have q7 : w.cell? ⟨f, 7, none⟩ = some (.slice (some ⟨gh, 0, none⟩) hv.length ch) := blkCell hf 7
  clear hf hh hd hr hl hs hE hn hn2 hm hx hsum
  go_enter Tryz.func18, Tryz.ntmps18
  go_wp2_with fail
  (with_reducible refine C1.out.mono ?_)
  rintro e w1 ⟨u, rfl, A1, cp1, r1, rfl, _, _, hg⟩
  have HG := Lib.hid hg
  have CV := Lib.hid (FB.text (HD.out.chg hg (fun h => h)))
  have CV2 := CV.out
  have hf1 := hg.obj HF.out (fun h => h)
  have e1 := blkCell hf1 1
  have e2 := blkCell hf1 2
  have e3 := blkCell hf1 3
  have e4 := blkCell hf1 4
  have e5 := blkCell hf1 5
  have e6 := blkCell hf1 6
  have e8 := blkCell hf1 8
  clear hg hf1
  go_wp2_with (go_at_call 9; (with_reducible refine (C2.out _ HG.out).mono ?_); rintro e w2 ⟨rfl, hg2⟩; have HG2 := Lib.hid (HG.out.trans hg2 (fun _ h => h.elim)); clear hg2)
  go_ret2
  exact ⟨rfl, HG2.out⟩
end Go.Proofs.YtnhdlclicjmmnaaGreat
/- Rows written by whole elements; steps whose run is known by an equation. -/
namespace Go.Proofs.YtnhdlclicjmmnaaGreat
open Go.RowKit Go.Lib Go.Shelf
section
variable {P : Program} {ops : Array Oper} {rest : List Oper} {o : Oper} {a : Act} {w w' : World} {Q : Exit → Act → World → Prop} {K : Act → World → Prop} {E : Prop}
/-- One step of a region that draws, its run known by an equation. -/
theorem step_run (hw : Region.wanted o (yielded ops a.tmps) = true) (v : Value) (hrun : (execOp a.eval o).run P w = .ok (.value v) w') (h : K (a.put o.dst v) w') : if Region.wanted o (yielded ops a.tmps) = true then Oper.wp P o a w K Q else E := by
  rw [if_pos hw]
  unfold Oper.wp
  rw [hrun, Oper.upon_value]
  exact h
theorem run_allocT (w : World) (T : TypeId) (z : Value) (hz : (P.info? T).map (·.zero) = some (some z)) : (Instr.alloc T true (.tuple #[])).run P w = .ok (.pointer (some ⟨w.heap.size, 0, none⟩)) (w.alloc (.cells z.cells T (0, 0))) := by
  obtain ⟨i, hi, hzz⟩ := Option.map_eq_some_iff.1 hz
  simp [Instr.alloc, zeroValue, typeInfo, hi, hzz, newVar, newRow]
theorem wpList_alloc_is (hg : o.guard = none) (T : TypeId) (ho : o.op = .alloc T) (z : Value) (hz : (P.info? T).map (·.zero) = some (some z))
    (h : wpList P ops Q rest (a.put o.dst (.pointer (some ⟨w.heap.size, 0, none⟩))) (w.alloc (.cells z.cells T (0, 0)))) : wpList P ops Q (o :: rest) a w :=
  Great.wpList_runTo hg o.dst rfl _ _ (by unfold execOp; simp only [ho, Sem.run_bind, run_allocT w T z hz]; rfl) h
end
theorem setCells_gen : ∀ (vs : List Value) (o : Nat) (w : World) (b : Nat) (cur : Array Value) (T : TypeId), w.heap[b]? = some (.cells cur T (0, 0)) → o + vs.length ≤ cur.size →
    ∃ cs : Array Value, (w.setCells b o vs).heap[b]? = some (.cells cs T (0, 0)) ∧ cs.toList = cur.toList.take o ++ vs ++ cur.toList.drop (o + vs.length) ∧ Chg (fun k => k = b) w (w.setCells b o vs)
  | [], o, w, b, cur, T, h, _ => ⟨cur, h, by simp, Chg.refl _ _⟩
  | v :: vs, o, w, b, cur, T, h, hl => by
    have h1 := blkSet h o v
    rw [List.length_cons] at hl
    obtain ⟨cs, h2, h3, h4⟩ := setCells_gen vs (o + 1) (w.setCell ⟨b, o, none⟩ v) b _ T h1 (by rw [Array.size_setIfInBounds]; omega)
    refine ⟨cs, h2, ?_, ((Chg.refl (fun k => k = b) w).setCell (p := ⟨b, o, none⟩) (.inl rfl) v).trans h4 (fun _ e => .inl e)⟩
    have hs : cur.toList.length = cur.size := Array.length_toList
    rw [h3, Array.toList_setIfInBounds, List.set_eq_take_append_cons_drop, if_pos (by omega)]
    have e1 : (List.take o cur.toList).length = o := by rw [List.length_take]; omega
    rw [List.take_append, e1, List.take_of_length_le (by omega), show o + 1 - o = 1 from by omega, List.take_succ_cons, List.take_zero, List.drop_append, e1, List.drop_of_length_le (by omega), List.nil_append, show o + 1 + vs.length - o = vs.length + 1 from by omega, List.drop_succ_cons, List.drop_drop, List.length_cons]
    simp only [List.append_assoc, List.cons_append, List.nil_append]
    rw [show o + 1 + vs.length = o + (vs.length + 1) from by omega]
theorem setCells_row {w : World} {b : Nat} {cur : Array Value} {T : TypeId} (h : w.heap[b]? = some (.cells cur T (0, 0))) (o : Nat) (vs : List Value) (ho : o + vs.length ≤ cur.size) :
    (w.setCells b o vs).heap[b]? = some (.cells (cur.toList.take o ++ vs ++ cur.toList.drop (o + vs.length)).toArray T (0, 0)) ∧ Chg (fun k => k = b) w (w.setCells b o vs) := by
  obtain ⟨cs, h1, h2, h3⟩ := setCells_gen vs o w b cur T h ho
  have : cs = (cur.toList.take o ++ vs ++ cur.toList.drop (o + vs.length)).toArray := by
    apply Array.ext'
    rw [h2]
  rw [← this]
  exact ⟨h1, h3⟩
theorem setCells_all {w : World} {b : Nat} {cur : Array Value} {T : TypeId} (h : w.heap[b]? = some (.cells cur T (0, 0))) (cs : Array Value) (hs : cs.size = cur.size) :
    (w.setCells b 0 cs.toList).heap[b]? = some (.cells cs T (0, 0)) ∧ Chg (fun k => k = b) w (w.setCells b 0 cs.toList) := by
  obtain ⟨h1, h2⟩ := setCells_row h 0 cs.toList (by rw [Array.length_toList]; omega)
  have : (cur.toList.take 0 ++ cs.toList ++ cur.toList.drop (0 + cs.toList.length)).toArray = cs := by
    rw [List.take_zero, List.nil_append, Nat.zero_add, List.drop_of_length_le (by rw [Array.length_toList, Array.length_toList]; omega), List.append_nil]
  rw [this] at h1
  exact ⟨h1, h2⟩
theorem there_mid {w : World} {b : Nat} {cur : Array Value} {T : TypeId} (h : w.heap[b]? = some (.cells cur T (0, 0))) (o n : Nat) (hs : o + n ≤ cur.size) : w.there b o n := fun j hj =>
  ⟨by rw [blkCell h, Array.getElem?_eq_getElem (by omega)]; rfl, blkFree h _⟩
/-- A whole struct stored: what lies there behind it, and that nothing else has turned. -/
theorem wpList_store_all {P : Program} {ops : Array Oper} {rest : List Oper} {op : Oper} {a : Act} {w : World} {Q : Exit → Act → World → Prop} (hgd : op.guard = none) (ty : TypeId) (x y : Operand) (ho : op.op = .store ty x y)
    (b : Nat) (cells cur : Array Value) (T : TypeId) (hx : a.eval x = .pointer (some ⟨b, 0, none⟩)) (hy : a.eval y = .agg cells) (hb : w.heap[b]? = some (.cells cur T (0, 0))) (hs : cells.size = cur.size)
    (hi : (P.info? ty).map (·.size) = some cells.size) (h1 : ∀ u ∈ cells.toList, u.oneCell' = true)
    (h : ∀ w', w'.heap[b]? = some (.cells cells T (0, 0)) → Chg (fun k => k = b) w w' → wpList P ops Q rest (a.put op.dst undef) w') : wpList P ops Q (op :: rest) a w := by
  obtain ⟨h2, h3⟩ := setCells_all hb cells hs
  exact wpList_store_mid hgd ty x y ho b 0 cells hx hy (there_mid hb 0 cells.size (by omega)) hi (by have := all_oneCell_toArray h1; rwa [Array.toArray_toList] at this) (h _ h2 h3)
/-- A struct built: its cells told beforehand. -/
theorem wpList_build_is {P : Program} {ops : Array Oper} {rest : List Oper} {o : Oper} {a : Act} {w : World} {Q : Exit → Act → World → Prop} (hg : o.guard = none) (t : TypeId) (parts : Array (Nat × Operand)) (ho : o.op = .build t parts)
    (ps : List (Nat × Value)) (hps : (parts.map fun (i, x) => (i, a.eval x)).toList = ps) (cells : Array Value) (hc : P.built t ps = some cells) (h : wpList P ops Q rest (a.put o.dst (.agg cells)) w) : wpList P ops Q (o :: rest) a w := by
  subst hps
  exact wpList_build hg t parts ho (by rw [hc]; rfl) (by rw [hc]; exact h)
theorem flatPut {α : Type} {sz : Nat} {enc : α → List Value} (he : ∀ x, (enc x).length = sz) (l : List α) (j : Nat) (y : α) (hj : j < l.length) : (l.flatMap enc).take (j * sz) ++ enc y ++ (l.flatMap enc).drop (j * sz + sz) = (l.set j y).flatMap enc := by
  have e : j * sz + sz = (j + 1) * sz := by rw [Nat.add_mul, Nat.one_mul]
  rw [e, flatTake he, flatDrop he, List.set_eq_take_append_cons_drop, if_pos hj, List.flatMap_append, List.flatMap_cons, List.append_assoc]
/-- An element written whole. -/
theorem SRow.put {α : Type} {E : TypeId} {sz : Nat} {enc : α → List Value} {w : World} {g n c : Nat} {r : Option Nat} {l : List α} (h : SRow E sz enc w (.slice (some ⟨g, 0, none⟩) n c) r l) (he : ∀ x, (enc x).length = sz) (j : Nat) (y : α) (hj : j < l.length) :
    w.there g (j * sz) sz ∧ SRow E sz enc (w.setCells g (j * sz) (enc y)) (.slice (some ⟨g, 0, none⟩) n c) r (l.set j y) ∧ Chg (fun k => r = some k) w (w.setCells g (j * sz) (enc y)) := by
  obtain ⟨g', cur, hA, hr, hn, hc, hm, hh, hs, ht⟩ := h.at_ (by omega)
  injection hA with hA
  injection hA with hA
  subst hA
  subst hn
  have h1 : (j + 1) * sz ≤ l.length * sz := Nat.mul_le_mul_right _ hj
  rw [Nat.add_mul, Nat.one_mul] at h1
  have h2 : l.length * sz ≤ c * sz := Nat.mul_le_mul_right _ hc
  obtain ⟨h3, h4⟩ := setCells_row hh (j * sz) (enc y) (by rw [he]; omega)
  have hcl : cur.toList.length = c * sz := by rw [Array.length_toList]; exact hs
  refine ⟨there_mid hh _ _ (by omega), ?_, h4.mono (fun k e => .inl (by rw [hr, e]))⟩
  rw [hr]
  refine SRow.remade he h3 ?_ _ List.length_set hc hm ?_
  · simp only [List.size_toArray, List.length_append, List.length_take, List.length_drop, he]
    omega
  · rw [← flatPut he l j y hj, ← ht]
    show (cur.toList.take (j * sz) ++ enc y ++ cur.toList.drop (j * sz + (enc y).length)).take (l.length * sz) = _
    rw [he, List.take_append, List.take_append, List.take_of_length_le (by rw [List.length_take]; omega), List.take_of_length_le (l := enc y) (by rw [he, List.length_take]; omega), List.length_append, List.length_take, he, List.take_take, List.drop_take,
      Nat.min_eq_left (show j * sz ≤ l.length * sz by omega), Nat.min_eq_left (show j * sz ≤ cur.toList.length by omega)]
end Go.Proofs.YtnhdlclicjmmnaaGreat
/- TopPatched: the device: Read. -/
namespace Go.Proofs.YtnhdlclicjmmnaaGreat
open Go.RowKit Go.Lib Go.Shelf
/-- A sector's cells, in the row. -/
theorem DRow.cells {w : World} {g n c : Nat} {r : Option Nat} {l : List (List UInt8)} (h : DRow w (.slice (some ⟨g, 0, none⟩) n c) r l) (k : Nat) (hk : k < l.length) : w.rangeAt g (k * 64) (enc64 (l.getD k [])) := fun j v hv => by
  have hj : j < 64 := by
    have := (List.getElem?_eq_some_iff.1 hv).1
    rwa [enc64_len] at this
  have hx : l[k]? = some (l.getD k []) := by simp [List.getD, hk]
  exact (SRow.cell h enc64_len k j _ hx hj v hv).1
theorem rd_str (x : List UInt8) : strOfNums ((fit64 x).map fun b => (b.toNat : Int)) = strOf (fit64 x) := by
  simp [strOfNums, strOf, List.map_map, Function.comp_def]
theorem run_string_sector {w : World} {g k : Nat} {x : List UInt8} (h : w.rangeAt g k (enc64 x)) : (convert 22 9 (.slice (some ⟨g, k, none⟩) 64 64)).run Tryz.prog w = .ok (.string (strOf (fit64 x))) w := by
  rw [← rd_str]
  refine run_convert_bytes_arg w 22 5 Tryz.underlying22 Tryz.underlying5 g k 64 64 _ (by rw [List.length_map, fit64_len]) (fun i hi => ?_) 9 Tryz.underlying9
  refine h i _ ?_
  have hl := fit64_len x
  simp [enc64, bcells, List.getElem?_eq_getElem (show i < (fit64 x).length by omega), List.getD_eq_getElem?_getD]
theorem Read_calls (w0 w : World) (b : Nat) (seen safe : List (List UInt8)) (pend : List (Nat × List UInt8)) (k : Nat) (h : Dv w0 w b seen safe pend) (hk : k < seen.length) :
    Calls Tryz.prog 85 #[.pointer (some ⟨b, 0, none⟩), .int .i64 k] w fun e w' => e = .returned (.tuple #[.string (strOf (fit64 (seen.getD k []))), .int .i64 0]) ∧ w' = w := by
  obtain ⟨_, _, A1, c1, r1, A2, c2, r2, A3, c3, r3, st, h3, h4, _⟩ := h
  obtain ⟨g, cur, rfl, _⟩ := SRow.at_ h4 (by omega)
  have hr := DRow.cells h4 k hk
  have hS := run_string_sector hr
  have h0 := blkCell h3 0
  have h5 := blkCell h3 5
  have C := at_calls w b (some ⟨g, 0, none⟩) seen.length c1 k h0 h5 hk
  have q0 : (0 : Int) ≤ (k : Int) := by omega
  have q1 : (k : Int) < (seen.length : Int) := by omega
  obtain ⟨X, hX⟩ : ∃ X, strOf (fit64 (seen.getD k [])) = X := ⟨_, rfl⟩
  rw [hX] at hS ⊢
  obtain ⟨N, hN⟩ : ∃ N, seen.length = N := ⟨_, rfl⟩
  rw [hN] at h0 q1
  clear h3 h4 hr hX hN hk
  simp at h0 h5
  go_enter Tryz.func85, Tryz.ntmps85
  go_wp2_with (go_at_call 103; refine C.mono ?_; rintro e w1 ⟨rfl, he⟩; obtain rfl := he)
  go_ret2
  exact ⟨rfl, rfl⟩
end Go.Proofs.YtnhdlclicjmmnaaGreat

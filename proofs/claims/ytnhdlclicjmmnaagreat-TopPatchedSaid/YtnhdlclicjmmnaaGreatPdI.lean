/- TopPatched: the device: Write's walk. -/
import Derived.Test.YtnhdlclicjmmnaaGreatPdH
import Derived.Test.YtnhdlclicjmmnaaGreatHq
namespace Go.Proofs.YtnhdlclicjmmnaaGreat
open Go.RowKit Go.Lib Go.Shelf
theorem loadCF {w : World} {b o n : Nat} {cs : List Value} (h : w.rangeAt b o cs) (hn : cs.length = n) : (loadCellsFrom ⟨b, o, none⟩ 0 n #[]).run Tryz.prog w = .ok cs.toArray w := by
  subst hn
  have := run_loadCells_list (P := Tryz.prog) w ⟨b, o, none⟩ cs (fun j v hv => by rw [Addr.add_mid]; exact h j v hv)
  simpa [loadCells] using this
theorem rangeW {w : World} {b : Nat} {q : Nat × List UInt8} (h : w.heap[b]? = some (.cells (encW q).toArray 94 (0, 0))) : w.rangeAt b 0 (encW q) := fun j v hv => by
  rw [Nat.zero_add, blkCell h, ← Array.getElem?_toList]
  exact hv
theorem rangeS {w : World} {b : Nat} {q : Nat × List UInt8} (h : w.heap[b]? = some (.cells (encW q).toArray 94 (0, 0))) : w.rangeAt b 1 (enc64 q.2) := fun j v hv => by
  rw [blkCell h, ← Array.getElem?_toList, Nat.add_comm]
  exact hv
theorem run_load_op {P : Program} {ρ : Operand → Value} {o : Oper} {T : TypeId} {x : Operand} {u v : Value} {w : World} (ho : o.op = .load T x) (hx : ρ x = v) (h : (Instr.loadAt T v).run P w = .ok u w) : (execOp ρ o).run P w = .ok (.value u) w := by
  unfold execOp
  simp only [ho, hx, Sem.run_bind, h, Result.andThen_ok, Sem.run_pure]
theorem run_build_op {P : Program} {ρ : Operand → Value} {o : Oper} {T n : Nat} {parts : Array (Nat × Operand)} {v : Array (Nat × Value)} {a : Value} {w w' : World} (ho : o.op = .buildSlice T n parts) (hv : (parts.map fun (i, x) => (i, ρ x)) = v) (h : (Instr.buildSlice T n v).run P w = .ok a w') : (execOp ρ o).run P w = .ok (.value a) w' := by
  unfold execOp
  simp only [ho, hv, Sem.run_bind, h, Result.andThen_ok, Sem.run_pure]
theorem copyRun (n : Nat) (t : ByteArray) (ht : t.size ≤ 64) (w : World) (bx : Nat) (ty : TypeId) (h : w.heap[bx]? = some (.cells (encW (n, [])).toArray 94 (0, 0))) :
    ∃ w', (Builtin.copy_ #[22, 9] ty #[.slice (some ⟨bx, 1, none⟩) 64 64, .string t]).run Tryz.prog w = .ok (goInt t.size) w' ∧ w'.heap[bx]? = some (.cells (encW (n, t.data.toList)).toArray 94 (0, 0)) ∧ Chg (fun k => k = bx) w w' := by
  have hl : t.data.toList.length = t.size := Array.length_toList
  have h1 := run_copy_row_string (P := Tryz.prog) w 22 9 ty 5 bx 1 64 64 t _ 94 Tryz.underlying22 (by kernel_rfl) h ht (by rw [List.size_toArray, encW_len]; omega)
  have e : (encW (n, [])).toArray.toList.take 1 ++ byteCells t.data.toList ++ (encW (n, [])).toArray.toList.drop (1 + t.size) = encW (n, t.data.toList) := by
    rw [← copyW n t.data.toList (by omega), hl]
    rfl
  rw [e] at h1
  exact ⟨_, h1, setRow_heap w bx _ _ _ _ h, (Chg.refl (fun k => k = bx) w).setRow (.inl rfl) _⟩
theorem step_store_mid {P : Program} {ops : Array Oper} {op : Oper} {a : Act} {w : World} {K : Act → World → Prop} {Q : Exit → Act → World → Prop} {E : Prop} (hw : Region.wanted op (yielded ops a.tmps) = true) (ty : TypeId) (x y : Operand) (ho : op.op = .store ty x y)
    (b o : Nat) (cells : Array Value) (hx : a.eval x = .pointer (some ⟨b, o, none⟩)) (hy : a.eval y = .agg cells) (ht : w.there b o cells.size) (hi : (P.info? ty).map (·.size) = some cells.size) (h1 : cells.all (·.oneCell') = true)
    (h : K (a.put op.dst undef) (w.setCells b o cells.toList)) : if Region.wanted op (yielded ops a.tmps) = true then Oper.wp P op a w K Q else E := by
  rw [if_pos hw]
  exact wp_store_mid ty x y ho b o cells hx hy ht hi h1 h
theorem write_fin {w0 w w3 w4 : World} {b g n c1 c2 c3 c4 : Nat} {A2 A3 A4 : Option Addr} {r1 r2 r3 r4 : Option Nat} {st' : Int} {seen safe : List (List UInt8)} {pend : List (Nat × List UInt8)} {q : Nat × List UInt8}
    (hb0 : w0.heap.size ≤ b) (hc0 : Chg (fun _ => False) w0 w) (hbw : b < w.heap.size) (hB : ∃ cs, w.heap[b]? = some (.cells cs 80 (0, 0))) (h4 : DRow w (.slice (some ⟨g, 0, none⟩) seen.length c1) r1 seen) (h5 : DRow w (.slice A2 safe.length c2) r2 safe) (h6 : WRow w (.slice A3 pend.length c3) r3 pend)
    (k1 : ∀ k, r1 = some k → w0.heap.size ≤ k) (k2 : ∀ k, r2 = some k → w0.heap.size ≤ k) (k3 : ∀ k, r3 = some k → w0.heap.size ≤ k) (hne : ∀ k, r1 = some k → r2 ≠ some k) (cw3 : Chg (fun k => k = b) w w3)
    (hb3 : w3.heap[b]? = some (.cells #[.slice (some ⟨g, 0, none⟩) seen.length c1, .slice A2 safe.length c2, .slice A3 pend.length c3, .int .i64 st', .int .i64 0, .bool false] 80 (0, 0)))
    (hrow : WRow w4 (.slice A4 (pend ++ [q]).length c4) r4 (pend ++ [q])) (hnext : Next w3 r3 r4) (hc4 : Chg (fun k => r3 = some k) w3 w4) (hn : n < seen.length) (w5 : World) (L : Nat) (hL : (pend ++ [q]).length = L) (hw5 : w5 = (w4.setCell ⟨b, 2, none⟩ (.slice A4 L c4)).drew) :
    w5.there g (n * 64) 64 ∧ Chg (fun k => r1 = some k) w5 (w5.setCells g (n * 64) (enc64 q.2)) ∧ Dv w0 (w5.setCells g (n * 64) (enc64 q.2)) b (seen.set n q.2) safe (pend ++ [q]) ∧ KeptT SDev w (w5.setCells g (n * 64) (enc64 q.2)) := by
  subst hL
  obtain ⟨cs, hB⟩ := hB
  have n1 := SRow.ne h4 hB (by decide)
  have n2 := SRow.ne h5 hB (by decide)
  have n3 := SRow.ne h6 hB (by decide)
  have g4 := SRow.chg h4 cw3 (fun k e hk => by subst hk; exact n1 e)
  have g5 := SRow.chg h5 cw3 (fun k e hk => by subst hk; exact n2 e)
  have g6 := SRow.chg h6 cw3 (fun k e hk => by subst hk; exact n3 e)
  have m1 : ∀ k, r1 = some k → r3 ≠ some k := fun k e e3 => by
    obtain ⟨_, cs1, hx1⟩ := SRow.lt g4 e
    exact SRow.ne g6 hx1 (by decide) e3
  have m2 : ∀ k, r2 = some k → r3 ≠ some k := fun k e e3 => by
    obtain ⟨_, cs1, hx1⟩ := SRow.lt g5 e
    exact SRow.ne g6 hx1 (by decide) e3
  have f4 := SRow.chg g4 hc4 (fun k e e3 => m1 k e e3)
  have f5 := SRow.chg g5 hc4 (fun k e e3 => m2 k e e3)
  have hb4 := hc4.obj hb3 (SRow.ne g6 hb3 (by decide))
  have c5 : Chg (fun k => k = b) w4 w5 := by
    rw [hw5]
    exact ((Chg.refl (fun k => k = b) w4).setCell (p := ⟨b, 2, none⟩) (.inl rfl) _).drew
  have hb5 : w5.heap[b]? = some (.cells #[.slice (some ⟨g, 0, none⟩) seen.length c1, .slice A2 safe.length c2, .slice A4 (pend ++ [q]).length c4, .int .i64 st', .int .i64 0, .bool false] 80 (0, 0)) := by
    rw [hw5]
    exact blkDrew (by simpa using blkSet hb4 2 (.slice A4 (pend ++ [q]).length c4)) 
  have e4 := SRow.chg f4 c5 (fun k e hk => by subst hk; exact SRow.ne f4 hb4 (by decide) e)
  have e5 := SRow.chg f5 c5 (fun k e hk => by subst hk; exact SRow.ne f5 hb4 (by decide) e)
  have e6 := SRow.chg hrow c5 (fun k e hk => by subst hk; exact SRow.ne hrow hb4 (by decide) e)
  obtain ⟨p1, p2, p3⟩ := SRow.put e4 enc64_len n q.2 hn
  have hb6 := p3.obj hb5 (SRow.ne e4 hb5 (by decide))
  have s5 := SRow.chg e5 p3 (fun k e e1 => hne k e1 e)
  have s6 := SRow.chg e6 p3 (fun k e e1 => by
    obtain ⟨_, cs1, hx1⟩ := SRow.lt e4 e1
    exact SRow.ne e6 hx1 (by decide) e)
  have call : Chg (fun k => k = b ∨ r1 = some k ∨ r3 = some k) w (w5.setCells g (n * 64) (enc64 q.2)) :=
    (((cw3.mono (fun k e => .inl (.inl e))).trans hc4 (fun k e => .inl (.inr (.inr e)))).trans c5 (fun k e => .inl (.inl e))).trans p3 (fun k e => .inl (.inr (.inl e)))
  have k4 : ∀ k, r4 = some k → w0.heap.size ≤ k := fun k e => by
    rcases hnext.mem e with h | h
    · exact k3 k h
    · exact Nat.le_trans (hc0.trans cw3 (fun k e => .inr (by rw [e]; exact hb0))).size h
  refine ⟨p1, p3, ⟨hb0, hc0.trans call (fun k e => .inr ?_), some ⟨g, 0, none⟩, c1, r1, A2, c2, r2, A4, c4, r4, st', ?_, ?_, s5, s6, k1, k2, k4, hne⟩, KeptT.of call (fun k e => ?_)⟩
  · rcases e with rfl | e | e
    · exact hb0
    · exact k1 k e
    · exact k3 k e
  · rw [List.length_set]
    exact hb6
  · rw [List.length_set]
    exact p2
  · rcases e with rfl | e | e
    · exact .inr ⟨_, _, _, hB, .inl rfl⟩
    · obtain ⟨_, cs1, hx1⟩ := SRow.lt h4 e
      exact .inr ⟨_, _, _, hx1, .inr (.inl rfl)⟩
    · obtain ⟨_, cs1, hx1⟩ := SRow.lt h6 e
      exact .inr ⟨_, _, _, hx1, .inr (.inr rfl)⟩
theorem zero65 : (Tryz.prog.info? 94).map (·.zero) = some (some (.agg (#[.int .i64 0] ++ Array.replicate 64 (.int .u8 0)))) := by kernel_rfl
set_option maxRecDepth 100000 in
theorem Write_calls (w0 w : World) (b : Nat) (seen safe : List (List UInt8)) (pend : List (Nat × List UInt8)) (n : Nat) (t : ByteArray) (h : Dv w0 w b seen safe pend) (hn : n < seen.length) (ht : t.size ≤ 64) (hp : pend.length ≤ 100000) :
    Calls Tryz.prog 111 #[.pointer (some ⟨b, 0, none⟩), .int .i64 n, .string t] w fun e w' => e = .returned (.int .i64 0) ∧ Dv w0 w' b (seen.set n t.data.toList) safe (pend ++ [(n, t.data.toList)]) ∧ KeptT SDev w w' := by
  obtain ⟨hb0, hc0, A1, c1, r1, A2, c2, r2, A3, c3, r3, st, h3, h4, h5, h6, k1, k2, k3, hne⟩ := h
  obtain ⟨g, cur, rfl, hrg, _⟩ := SRow.at_ h4 (by omega)
  have C := Lib.hid (at_calls w b (some ⟨g, 0, none⟩) seen.length c1 n (blkCell h3 0) (blkCell h3 5) hn)
  have C2 := Lib.hid (step_calls w b st (blkCell h3 3) (blkFree h3 3) (blkCell h3 4))
  have e0 : decide ((64 : Int) < (t.size : Int)) = false := decide_eq_false (by omega)
  have CH := Lib.hid (fun (w1 : World) (st' : Int) (he : w1 = w.setCell ⟨b, 3, none⟩ (.int .i64 st')) => (⟨by rw [he]; simpa using blkSet h3 3 (.int .i64 st'), by rw [he]; exact (Chg.refl (fun k => k = b) w).setCell (p := ⟨b, 3, none⟩) (.inl rfl) _⟩ :
    w1.heap[b]? = some (.cells #[.slice (some ⟨g, 0, none⟩) seen.length c1, .slice A2 safe.length c2, .slice A3 pend.length c3, .int .i64 st', .int .i64 0, .bool false] 80 (0, 0)) ∧ Chg (fun k => k = b) w w1))
  have H4 := Lib.hid h4
  have H5 := Lib.hid h5
  have H6 := Lib.hid h6
  have H3 := Lib.hid h3
  clear h3 h4 h5 h6
  go_enter Tryz.func111, Tryz.ntmps111
  go_wp2_with (first
    | (go_at_call 103; refine C.out.mono ?_; rintro e w1 ⟨rfl, he⟩; have he := he.symm; subst he)
    | (go_at_call 118; refine C2.out.mono ?_; rintro e w1 ⟨rfl, st', he⟩; obtain ⟨hx, hg⟩ := CH.out w1 st' he; have HX := Lib.hid hx; have HG := Lib.hid hg; clear he hx hg)
    | (show wpList _ _ _ (⟨some 25, _, _, _, _, _⟩ :: _) _ _; refine wpList_build_is rfl 94 #[(0, .tmp 24)] rfl [(0, .int .i64 n)] (by simp [Act.eval]) (encW (n, [])).toArray (by rw [encW0]; exact builtW n) ?_)
    | (show wpList _ _ _ (⟨some 9, _, _, _, _, _⟩ :: _) _ _; refine wpList_alloc_is rfl 94 rfl _ zero65 ?_)
    | (show wpList _ _ _ (⟨none, _, _, _, _, _⟩ :: _) _ _; refine wpList_store_all rfl 94 (.tmp 9) (.tmp 25) rfl w1.heap.size (encW (n, [])).toArray _ 94 rfl rfl (blkAlloc w1 _) (by rw [List.size_toArray, encW_len]; rfl) (by rw [List.size_toArray, encW_len]; exact size65) (by intro u hu; exact encW_one _ u hu) ?_; intro w2 hx2 hg2; obtain ⟨w3, hcp, hx3, hg3⟩ := copyRun n t ht w2 w1.heap.size 3 hx2; have HX3 := Lib.hid hx3; have C13 : Hid (Chg (fun _ => False) w1 w3) := Lib.hid ((((Chg.refl (fun _ => False) w1).alloc _).trans hg2 (fun k e => .inr (by rw [e]; exact Nat.le_refl _))).trans hg3 (fun k e => .inr (by rw [e]; exact Nat.le_refl _))); clear hx2 hg2 hx3 hg3)
    | fail "NOFIT")
  have HB3 := Lib.hid (C13.out.obj HX.out (fun h => h))
  have d2 := blkCell HB3.out 2
  have f2 := blkFree HB3.out 2
  have hl1 := loadW HX3.out
  have hl2 := loadCF (w := w3.drew) (rangeW HX3.out) (encW_len _)
  clear hcp
  have hbs := buildW (n, t.data.toList)
  have CW3 := Lib.hid (HG.out.trans C13.out (fun _ h => h.elim))
  have NE3 := Lib.hid (SRow.ne H6.out H3.out (by decide))
  have HR3 := Lib.hid (SRow.chg H6.out CW3.out (fun k e hk => by subst hk; exact NE3.out e))
  have HR3b := Lib.hid (SRow.ne HR3.out HB3.out (by decide))
  obtain ⟨q, hq⟩ : ∃ q, (n, t.data.toList) = q := ⟨_, rfl⟩
  rw [hq] at hbs hl1 hl2 HX3
  have HQ := Lib.hid hq
  clear hq
  have hp1 : (pend.length + 1) * 72 ≤ 140737488355328 := by omega
  clear C C2 CH e0
  have d2a : ∀ ob, (w3.alloc ob).cell? ⟨b, 2, none⟩ = some (.slice A3 pend.length c3) := fun ob => blkCell (blkOld HB3.out ob) 2
  have i0 : (0 : Int) ≤ (n : Int) := by omega
  have i1 : (n : Int) < (seen.length : Int) := by omega
  have HR3x := Lib.hid (show r3 ≠ some w1.heap.size from fun e => absurd (SRow.lt H6.out e).1 (by have := HG.out.size; omega))
  have NR1x := Lib.hid (show r1 ≠ some w1.heap.size from fun e => absurd (SRow.lt H4.out e).1 (by have := HG.out.size; omega))
  have NR1b := Lib.hid (SRow.ne H4.out H3.out (by decide))
  have NEX := Lib.hid (show w1.heap.size ≠ b from fun e => absurd (blkLt HX.out) (by omega))
  refine wp_region_held_drew (S := fun w' => w'.heap[w1.heap.size]? = some (.cells (encW q).toArray 94 (0, 0))) (by kernel_rfl) (HX3.out) (fun hHeld => ?_)
  refine held_take 0 (some 30) ?vk0 rfl rfl (by kernel_rfl) (by kernel_rfl) (by kernel_rfl) (fun _ _ _ h => h) (by go_simp) (by assumption) ?hyk0 ?restk0
  case hyk0 => (intro w hSw; (try dsimp only at hSw); go_simp; try with_reducible rfl)
  (try simp only [Act.put, List.setIfInBounds_toArray, List.set_cons_zero, List.set_cons_succ])
  refine held_take 1 (some 31) ?vk1 rfl rfl (by kernel_rfl) (by kernel_rfl) (by kernel_rfl) (fun _ _ _ h => h) (by go_simp) (by assumption) ?hyk1 ?restk1
  case hyk1 => (intro w hSw; (try dsimp only at hSw); go_simp; try with_reducible rfl)
  (try simp only [Act.put, List.setIfInBounds_toArray, List.set_cons_zero, List.set_cons_succ])
  refine held_take 2 (some 32) ?vk2 rfl rfl (by kernel_rfl) (by kernel_rfl) (by kernel_rfl) (fun _ _ _ h => h) (by go_simp) (by assumption) ?hyk2 ?restk2
  case hyk2 => (intro w hSw; (try dsimp only at hSw); go_simp; try with_reducible rfl)
  (try simp only [Act.put, List.setIfInBounds_toArray, List.set_cons_zero, List.set_cons_succ])
  refine held_take 3 (some 33) ?vk3 rfl rfl (by kernel_rfl) (by kernel_rfl) (by kernel_rfl) (fun _ _ _ h => h) (by go_simp) (by assumption) ?hyk3 ?restk3
  case hyk3 => (intro w hSw; (try dsimp only at hSw); go_simp; try with_reducible rfl)
  (try simp only [Act.put, List.setIfInBounds_toArray, List.set_cons_zero, List.set_cons_succ])
  refine held_take 5 (some 35) (.agg (encW q).toArray) rfl rfl (by kernel_rfl) (by kernel_rfl) (by kernel_rfl) (fun _ _ _ h => h) (by go_simp) (by assumption) ?hyk5 ?restk5
  case hyk5 => (intro w hSw; exact run_load_op (v := .pointer (some ⟨w1.heap.size, 0, none⟩)) rfl rfl (loadW hSw))
  (try simp only [Act.put, List.setIfInBounds_toArray, List.set_cons_zero, List.set_cons_succ])
  refine wpAnyH_ready (rs := [4, 6]) (by kernel_rfl) (by simp) ?_
  refine AllReadyH.cons rfl (fun K hK => ?_) (AllReadyH.cons rfl (fun K hK => ?_) AllReadyH.nil)
  · go_simp
    refine hK.out _ _ (HX3.out) (fun hHeld => ?_)
    clear hK K
    (try simp only [Act.put, List.setIfInBounds_toArray, List.set_cons_zero, List.set_cons_succ])
    refine wpAnyH_ready (rs := [6]) (by kernel_rfl) (by simp) ?_
    refine AllReadyH.cons rfl (fun K hK => ?_) AllReadyH.nil
    refine step_run (by go_simp) _ (run_build_op (a := .slice (some ⟨w3.heap.size, 0, none⟩) 1 1) (v := #[(0, .agg (encW q).toArray)]) rfl (by simp [Act.eval]) (hbs _)) ?_
    refine hK.out _ _ (blkOld (blkDrew HX3.out) _) (fun hHeld => ?_)
    clear hK K
    (try simp only [Act.put, List.setIfInBounds_toArray, List.set_cons_zero, List.set_cons_succ])
    refine wpAnyH_ready (rs := [7]) (by kernel_rfl) (by simp) ?_
    refine AllReadyH.cons rfl (fun K hK => ?_) AllReadyH.nil
    refine step_sappend w3.drew rfl (.tmp 34) (.tmp 36) 78 72 rfl Tryz.underlying78 elem65 encW_len encW_one (.slice A3 pend.length c3) r3 pend q (by simp [Act.eval, Act.put]) (by simp [Act.eval, Act.put]) HR3.out hp1 (by omega) ?_
    intro A4 c4 w4 r4 hrow hnext hgrow
    have hc4 : Chg (fun k => r3 = some k) w3 w4 := ((Chg.refl (fun k => r3 = some k) w3).drew.alloc _).grown hgrow (fun _ hk => .inl hk)
    have HB4 := Lib.hid (hc4.obj HB3.out HR3b.out)
    have HX4 := Lib.hid (hc4.obj HX3.out HR3x.out)
    have d4 := blkCell HB4.out 2
    have f4 := blkFree HB4.out 2
    have e0 := blkCell (hc4.obj HB3.out HR3b.out) 0
    have FN := Lib.hid (write_fin hb0 hc0 (blkLt H3.out) ⟨_, H3.out⟩ H4.out H5.out H6.out k1 k2 k3 hne CW3.out HB3.out hrow hnext hc4 hn _ (pend.length + 1) (by simp) rfl)
    clear hrow hnext hgrow hc4
    refine hK.out _ _ (HX4.out) (fun hHeld => ?_)
    clear hK K
    (try simp only [Act.put, List.setIfInBounds_toArray, List.set_cons_zero, List.set_cons_succ])
    refine held_take 8 (some 38) ?vp8 rfl rfl (by kernel_rfl) (by kernel_rfl) (by kernel_rfl) (fun _ _ _ h => h) (by go_simp) (by assumption) ?hyp8 ?restp8
    case hyp8 => (intro w hSw; (try dsimp only at hSw); go_simp; try with_reducible rfl)
    (try simp only [Act.put, List.setIfInBounds_toArray, List.set_cons_zero, List.set_cons_succ])
    refine held_take 9 (some 39) ?vp9 rfl rfl (by kernel_rfl) (by kernel_rfl) (by kernel_rfl) (fun _ _ _ h => h) (by go_simp) (by assumption) ?hyp9 ?restp9
    case hyp9 => (intro w hSw; (try dsimp only at hSw); go_simp; try with_reducible rfl)
    (try simp only [Act.put, List.setIfInBounds_toArray, List.set_cons_zero, List.set_cons_succ])
    refine wpAnyH_ready (rs := [10]) (by kernel_rfl) (by simp) ?_
    refine AllReadyH.cons rfl (fun K hK => ?_) AllReadyH.nil
    go_simp
    refine hK.out _ _ ((Below.heap_setCell _ _ _ _ (fun e => NEX.out e)).trans HX4.out) (fun hHeld => ?_)
    clear hK K
    (try simp only [Act.put, List.setIfInBounds_toArray, List.set_cons_zero, List.set_cons_succ])
    refine wpAnyH_done (by kernel_rfl) ?_ _
    have HX5 : Hid ((w4.setCell ⟨b, 2, none⟩ (.slice A4 (pend.length + 1) c4)).heap[w1.heap.size]? = some (.cells (encW q).toArray 94 (0, 0))) := Lib.hid ((Below.heap_setCell _ _ _ _ (fun e => NEX.out e)).trans HX4.out)
    have D0 : (w4.setCell ⟨b, 2, none⟩ (.slice A4 (pend.length + 1) c4)).cell? ⟨b, 0, none⟩ = some (.slice (some ⟨g, 0, none⟩) seen.length c1) := by rw [blkCell (blkSet HB4.out 2 _)]; rfl
    have HB5 := Lib.hid (blkSet HB4.out 2 (.slice A4 (pend.length + 1) c4))
    obtain ⟨w5, hw5⟩ : ∃ w5, w4.setCell ⟨b, 2, none⟩ (.slice A4 (pend.length + 1) c4) = w5 := ⟨_, rfl⟩
    rw [hw5] at FN HX5 D0 HB5
    simp only [hw5]
    clear d4 f4 e0 hw5
    go_wp2_with fail
    refine wp_region_held_drew (S := fun w' => w'.cell? ⟨b, 0, none⟩ = some (.slice (some ⟨g, 0, none⟩) seen.length c1) ∧ w'.heap[w1.heap.size]? = some (.cells (encW q).toArray 94 (0, 0))) (by kernel_rfl) (⟨D0, HX5.out⟩) (fun hHeld => ?_)
    refine held_take 0 (some 40) ?vpp0 rfl rfl (by kernel_rfl) (by kernel_rfl) (by kernel_rfl) (fun _ _ _ h => h) (by go_simp) (by assumption) ?hypp0 ?restpp0
    case hypp0 => (intro w hSw; (try dsimp only at hSw); go_simp; try with_reducible rfl)
    (try simp only [Act.put, List.setIfInBounds_toArray, List.set_cons_zero, List.set_cons_succ])
    refine held_take 1 (some 41) ?vpp1 rfl rfl (by kernel_rfl) (by kernel_rfl) (by kernel_rfl) (fun _ _ _ h => h) (by go_simp) (by assumption) ?hypp1 ?restpp1
    case hypp1 => (intro w hSw; (try dsimp only at hSw); go_simp; try with_reducible rfl)
    (try simp only [Act.put, List.setIfInBounds_toArray, List.set_cons_zero, List.set_cons_succ])
    refine held_take 2 (some 42) ?vpp2 rfl rfl (by kernel_rfl) (by kernel_rfl) (by kernel_rfl) (fun _ _ _ h => h) (by go_simp) (by assumption) ?hypp2 ?restpp2
    case hypp2 => (intro w hSw; (try dsimp only at hSw); go_simp; try with_reducible rfl)
    (try simp only [Act.put, List.setIfInBounds_toArray, List.set_cons_zero, List.set_cons_succ])
    refine held_take 3 (some 43) ?vpp3 rfl rfl (by kernel_rfl) (by kernel_rfl) (by kernel_rfl) (fun _ _ _ h => h) (by go_simp) (by assumption) ?hypp3 ?restpp3
    case hypp3 => (intro w hSw; (try dsimp only at hSw); go_simp; try with_reducible rfl)
    (try simp only [Act.put, List.setIfInBounds_toArray, List.set_cons_zero, List.set_cons_succ])
    refine held_take 4 (some 44) ?vpp4 rfl rfl (by kernel_rfl) (by kernel_rfl) (by kernel_rfl) (fun _ _ _ h => h) (by go_simp) (by assumption) ?hypp4 ?restpp4
    case hypp4 => (intro w hSw; (try dsimp only at hSw); go_simp; try with_reducible rfl)
    (try simp only [Act.put, List.setIfInBounds_toArray, List.set_cons_zero, List.set_cons_succ])
    refine held_take 5 (some 45) ?vpp5 rfl rfl (by kernel_rfl) (by kernel_rfl) (by kernel_rfl) (fun _ _ _ h => h) (by go_simp) (by assumption) ?hypp5 ?restpp5
    case hypp5 => (intro w hSw; (try dsimp only at hSw); go_simp; try with_reducible rfl)
    (try simp only [Act.put, List.setIfInBounds_toArray, List.set_cons_zero, List.set_cons_succ])
    refine held_take 6 (some 46) (.agg (enc64 q.2).toArray) rfl rfl (by kernel_rfl) (by kernel_rfl) (by kernel_rfl) (fun _ _ _ h => h) (by go_simp) (by assumption) ?hypp6 ?restpp6
    case hypp6 => (intro w hSw; exact run_load_op (v := .pointer (some ⟨w1.heap.size, 1, none⟩)) rfl rfl (loadS hSw.2))
    (try simp only [Act.put, List.setIfInBounds_toArray, List.set_cons_zero, List.set_cons_succ])
    refine held_take 7 (some 47) ?vpp7 rfl rfl (by kernel_rfl) (by kernel_rfl) (by kernel_rfl) (fun _ _ _ h => h) (by go_simp) (by assumption) ?hypp7 ?restpp7
    case hypp7 => (intro w hSw; (try dsimp only at hSw); go_simp; try with_reducible rfl)
    (try simp only [Act.put, List.setIfInBounds_toArray, List.set_cons_zero, List.set_cons_succ])
    refine wpAnyH_ready (rs := [8]) (by kernel_rfl) (by simp) ?_
    refine AllReadyH.cons rfl (fun K hK => ?_) AllReadyH.nil
    refine step_store_mid (by go_simp) 92 (.tmp 47) (.tmp 46) rfl g (n * 64) (enc64 q.2).toArray rfl rfl (by rw [List.size_toArray, enc64_len]; exact FN.out.1) (by rw [List.size_toArray, enc64_len]; exact size64) (all_oneCell_toArray (enc64_one _)) ?_
    have KX := Lib.hid FN.out.2.2
    have HW6 : Hid ((w5.drew.setCells g (n * 64) (enc64 q.2)).cell? ⟨b, 0, none⟩ = some (.slice (some ⟨g, 0, none⟩) seen.length c1) ∧ (w5.drew.setCells g (n * 64) (enc64 q.2)).heap[w1.heap.size]? = some (.cells (encW q).toArray 94 (0, 0))) := Lib.hid ⟨(blkCell (FN.out.2.1.obj HB5.out NR1b.out) 0).trans rfl, FN.out.2.1.obj HX5.out NR1x.out⟩
    refine hK.out _ _ (HW6.out) (fun hHeld => ?_)
    clear hK K
    (try simp only [Act.put, List.setIfInBounds_toArray, List.set_cons_zero, List.set_cons_succ])
    refine wpAnyH_done (by kernel_rfl) ?_ _
    go_wp2_with fail
    go_ret
    have hq := HQ.out
    subst hq
    exact ⟨rfl, KX.out⟩
  · refine step_run (by go_simp) _ (run_build_op (a := .slice (some ⟨w3.heap.size, 0, none⟩) 1 1) (v := #[(0, .agg (encW q).toArray)]) rfl (by simp [Act.eval]) (hbs _)) ?_
    refine hK.out _ _ (blkOld (blkDrew HX3.out) _) (fun hHeld => ?_)
    clear hK K
    (try simp only [Act.put, List.setIfInBounds_toArray, List.set_cons_zero, List.set_cons_succ])
    refine wpAnyH_ready (rs := [4]) (by kernel_rfl) (by simp) ?_
    refine AllReadyH.cons rfl (fun K hK => ?_) AllReadyH.nil
    go_simp
    refine hK.out _ _ (hHeld) (fun hHeld => ?_)
    clear hK K
    (try simp only [Act.put, List.setIfInBounds_toArray, List.set_cons_zero, List.set_cons_succ])
    refine wpAnyH_ready (rs := [7]) (by kernel_rfl) (by simp) ?_
    refine AllReadyH.cons rfl (fun K hK => ?_) AllReadyH.nil
    refine step_sappend w3.drew rfl (.tmp 34) (.tmp 36) 78 72 rfl Tryz.underlying78 elem65 encW_len encW_one (.slice A3 pend.length c3) r3 pend q (by simp [Act.eval, Act.put]) (by simp [Act.eval, Act.put]) HR3.out hp1 (by omega) ?_
    intro A4 c4 w4 r4 hrow hnext hgrow
    have hc4 : Chg (fun k => r3 = some k) w3 w4 := ((Chg.refl (fun k => r3 = some k) w3).drew.alloc _).grown hgrow (fun _ hk => .inl hk)
    have HB4 := Lib.hid (hc4.obj HB3.out HR3b.out)
    have HX4 := Lib.hid (hc4.obj HX3.out HR3x.out)
    have d4 := blkCell HB4.out 2
    have f4 := blkFree HB4.out 2
    have e0 := blkCell (hc4.obj HB3.out HR3b.out) 0
    have FN := Lib.hid (write_fin hb0 hc0 (blkLt H3.out) ⟨_, H3.out⟩ H4.out H5.out H6.out k1 k2 k3 hne CW3.out HB3.out hrow hnext hc4 hn _ (pend.length + 1) (by simp) rfl)
    clear hrow hnext hgrow hc4
    refine hK.out _ _ (HX4.out) (fun hHeld => ?_)
    clear hK K
    (try simp only [Act.put, List.setIfInBounds_toArray, List.set_cons_zero, List.set_cons_succ])
    refine held_take 8 (some 38) ?vr8 rfl rfl (by kernel_rfl) (by kernel_rfl) (by kernel_rfl) (fun _ _ _ h => h) (by go_simp) (by assumption) ?hyr8 ?restr8
    case hyr8 => (intro w hSw; (try dsimp only at hSw); go_simp; try with_reducible rfl)
    (try simp only [Act.put, List.setIfInBounds_toArray, List.set_cons_zero, List.set_cons_succ])
    refine held_take 9 (some 39) ?vr9 rfl rfl (by kernel_rfl) (by kernel_rfl) (by kernel_rfl) (fun _ _ _ h => h) (by go_simp) (by assumption) ?hyr9 ?restr9
    case hyr9 => (intro w hSw; (try dsimp only at hSw); go_simp; try with_reducible rfl)
    (try simp only [Act.put, List.setIfInBounds_toArray, List.set_cons_zero, List.set_cons_succ])
    refine wpAnyH_ready (rs := [10]) (by kernel_rfl) (by simp) ?_
    refine AllReadyH.cons rfl (fun K hK => ?_) AllReadyH.nil
    go_simp
    refine hK.out _ _ ((Below.heap_setCell _ _ _ _ (fun e => NEX.out e)).trans HX4.out) (fun hHeld => ?_)
    clear hK K
    (try simp only [Act.put, List.setIfInBounds_toArray, List.set_cons_zero, List.set_cons_succ])
    refine wpAnyH_done (by kernel_rfl) ?_ _
    have HX5 : Hid ((w4.setCell ⟨b, 2, none⟩ (.slice A4 (pend.length + 1) c4)).heap[w1.heap.size]? = some (.cells (encW q).toArray 94 (0, 0))) := Lib.hid ((Below.heap_setCell _ _ _ _ (fun e => NEX.out e)).trans HX4.out)
    have D0 : (w4.setCell ⟨b, 2, none⟩ (.slice A4 (pend.length + 1) c4)).cell? ⟨b, 0, none⟩ = some (.slice (some ⟨g, 0, none⟩) seen.length c1) := by rw [blkCell (blkSet HB4.out 2 _)]; rfl
    have HB5 := Lib.hid (blkSet HB4.out 2 (.slice A4 (pend.length + 1) c4))
    obtain ⟨w5, hw5⟩ : ∃ w5, w4.setCell ⟨b, 2, none⟩ (.slice A4 (pend.length + 1) c4) = w5 := ⟨_, rfl⟩
    rw [hw5] at FN HX5 D0 HB5
    simp only [hw5]
    clear d4 f4 e0 hw5
    go_wp2_with fail
    refine wp_region_held_drew (S := fun w' => w'.cell? ⟨b, 0, none⟩ = some (.slice (some ⟨g, 0, none⟩) seen.length c1) ∧ w'.heap[w1.heap.size]? = some (.cells (encW q).toArray 94 (0, 0))) (by kernel_rfl) (⟨D0, HX5.out⟩) (fun hHeld => ?_)
    refine held_take 0 (some 40) ?vrr0 rfl rfl (by kernel_rfl) (by kernel_rfl) (by kernel_rfl) (fun _ _ _ h => h) (by go_simp) (by assumption) ?hyrr0 ?restrr0
    case hyrr0 => (intro w hSw; (try dsimp only at hSw); go_simp; try with_reducible rfl)
    (try simp only [Act.put, List.setIfInBounds_toArray, List.set_cons_zero, List.set_cons_succ])
    refine held_take 1 (some 41) ?vrr1 rfl rfl (by kernel_rfl) (by kernel_rfl) (by kernel_rfl) (fun _ _ _ h => h) (by go_simp) (by assumption) ?hyrr1 ?restrr1
    case hyrr1 => (intro w hSw; (try dsimp only at hSw); go_simp; try with_reducible rfl)
    (try simp only [Act.put, List.setIfInBounds_toArray, List.set_cons_zero, List.set_cons_succ])
    refine held_take 2 (some 42) ?vrr2 rfl rfl (by kernel_rfl) (by kernel_rfl) (by kernel_rfl) (fun _ _ _ h => h) (by go_simp) (by assumption) ?hyrr2 ?restrr2
    case hyrr2 => (intro w hSw; (try dsimp only at hSw); go_simp; try with_reducible rfl)
    (try simp only [Act.put, List.setIfInBounds_toArray, List.set_cons_zero, List.set_cons_succ])
    refine held_take 3 (some 43) ?vrr3 rfl rfl (by kernel_rfl) (by kernel_rfl) (by kernel_rfl) (fun _ _ _ h => h) (by go_simp) (by assumption) ?hyrr3 ?restrr3
    case hyrr3 => (intro w hSw; (try dsimp only at hSw); go_simp; try with_reducible rfl)
    (try simp only [Act.put, List.setIfInBounds_toArray, List.set_cons_zero, List.set_cons_succ])
    refine held_take 4 (some 44) ?vrr4 rfl rfl (by kernel_rfl) (by kernel_rfl) (by kernel_rfl) (fun _ _ _ h => h) (by go_simp) (by assumption) ?hyrr4 ?restrr4
    case hyrr4 => (intro w hSw; (try dsimp only at hSw); go_simp; try with_reducible rfl)
    (try simp only [Act.put, List.setIfInBounds_toArray, List.set_cons_zero, List.set_cons_succ])
    refine held_take 5 (some 45) ?vrr5 rfl rfl (by kernel_rfl) (by kernel_rfl) (by kernel_rfl) (fun _ _ _ h => h) (by go_simp) (by assumption) ?hyrr5 ?restrr5
    case hyrr5 => (intro w hSw; (try dsimp only at hSw); go_simp; try with_reducible rfl)
    (try simp only [Act.put, List.setIfInBounds_toArray, List.set_cons_zero, List.set_cons_succ])
    refine held_take 6 (some 46) (.agg (enc64 q.2).toArray) rfl rfl (by kernel_rfl) (by kernel_rfl) (by kernel_rfl) (fun _ _ _ h => h) (by go_simp) (by assumption) ?hyrr6 ?restrr6
    case hyrr6 => (intro w hSw; exact run_load_op (v := .pointer (some ⟨w1.heap.size, 1, none⟩)) rfl rfl (loadS hSw.2))
    (try simp only [Act.put, List.setIfInBounds_toArray, List.set_cons_zero, List.set_cons_succ])
    refine held_take 7 (some 47) ?vrr7 rfl rfl (by kernel_rfl) (by kernel_rfl) (by kernel_rfl) (fun _ _ _ h => h) (by go_simp) (by assumption) ?hyrr7 ?restrr7
    case hyrr7 => (intro w hSw; (try dsimp only at hSw); go_simp; try with_reducible rfl)
    (try simp only [Act.put, List.setIfInBounds_toArray, List.set_cons_zero, List.set_cons_succ])
    refine wpAnyH_ready (rs := [8]) (by kernel_rfl) (by simp) ?_
    refine AllReadyH.cons rfl (fun K hK => ?_) AllReadyH.nil
    refine step_store_mid (by go_simp) 92 (.tmp 47) (.tmp 46) rfl g (n * 64) (enc64 q.2).toArray rfl rfl (by rw [List.size_toArray, enc64_len]; exact FN.out.1) (by rw [List.size_toArray, enc64_len]; exact size64) (all_oneCell_toArray (enc64_one _)) ?_
    have KX := Lib.hid FN.out.2.2
    have HW6 : Hid ((w5.drew.setCells g (n * 64) (enc64 q.2)).cell? ⟨b, 0, none⟩ = some (.slice (some ⟨g, 0, none⟩) seen.length c1) ∧ (w5.drew.setCells g (n * 64) (enc64 q.2)).heap[w1.heap.size]? = some (.cells (encW q).toArray 94 (0, 0))) := Lib.hid ⟨(blkCell (FN.out.2.1.obj HB5.out NR1b.out) 0).trans rfl, FN.out.2.1.obj HX5.out NR1x.out⟩
    refine hK.out _ _ (HW6.out) (fun hHeld => ?_)
    clear hK K
    (try simp only [Act.put, List.setIfInBounds_toArray, List.set_cons_zero, List.set_cons_succ])
    refine wpAnyH_done (by kernel_rfl) ?_ _
    go_wp2_with fail
    go_ret
    have hq := HQ.out
    subst hq
    exact ⟨rfl, KX.out⟩
end Go.Proofs.YtnhdlclicjmmnaaGreat

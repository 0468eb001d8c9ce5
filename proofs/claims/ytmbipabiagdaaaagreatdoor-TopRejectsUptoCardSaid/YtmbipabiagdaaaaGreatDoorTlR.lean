/- TopRejects: note.Read. -/
import Derived.Test.YtmbipabiagdaaaaGreatDoorTlE
import Derived.Shelf.Abstract
import Derived.Shelf.RegionOpen
import Derived.OwnWalkIn
import Derived.TacticsInMore
import Derived.LoopNIn
import Derived.LoopIn
import Derived.BigGuardPartIn
import Derived.Laws.ResultCell
namespace Go.Proofs.YtmbipabiagdaaaaGreatDoor
open Go.RowKit Go.Lib Go.Shelf
attribute [local go_sem] Oper.semAt_some
theorem results_cell_row2 {P : Program} {fn : Func} {p u : Tmp} {ty : TypeId} (h : fn.results = #[.cell p ty, .tmp u]) (tmps : Array Value) (w : World) (g : Nat) (t : TypeId) (cs : Array Value) (fr : Nat × Nat) (d : TypeDesc)
    (hp : tmps.getD p undef = .pointer (some ⟨g, 0, none⟩)) (hg : w.heap[g]? = some (.cells cs t fr))
    (hu : P.underlying ty = some d) (hd : (match d with | .struct _ | .array _ _ => true | _ => false) = true) (hi : (P.info? ty).map (·.size) = some cs.size) :
    (results fn tmps).run P w = .ok (.tuple #[.agg cs, tmps.getD u undef]) w := by
  rw [results_cell_tmp h, hp]
  simp [asAddr, Sem.run, run_loadVar_row w g t ty cs fr d hg hu hd hi, Result.andThen]
theorem read_fin {W9 : World} {b D : Nat} {a0 a1 : Value} {R : Ending → World → Prop} (T0 : Array Value) (v0 v1 : Value) (n6 : W9.heap[b]? = some (.cells #[a0, a1] 29 (0, 0))) (hD : W9.heap[D]? = some (.deferred (some []))) (hb : b ≠ D)
    (h2 : T0.getD 2 undef = .pointer (some ⟨b, 0, none⟩)) (hR : ∀ W2, Chg (fun k => k = b ∨ k = D) W9 W2 → R (.returned (.tuple #[.agg #[v0, v1], T0.getD 3 undef])) W2) :
    bodyPostM Fence.wide 3 Tryz.prog Tryz.f5 R Exit.ret { tmps := T0, defers := [{ target := .collected D, args := #[] }] } ((W9.setCell ⟨b, 0, none⟩ v0).setCell ⟨b, 1, none⟩ v1) := by
  obtain ⟨hb1, hc1⟩ := boxSet2 n6 v0 v1
  have hd1 := hc1.obj hD (fun e => hb e.symm)
  refine ⟨by simp, .inl ⟨_, _, rfl, run_takeDeferred hd1, ?_⟩⟩
  have hc2 := Chg.put ((W9.setCell ⟨b, 0, none⟩ v0).setCell ⟨b, 1, none⟩ v1) D (.deferred none)
  exact ⟨_, results_cell_row2 rfl _ _ b _ _ _ _ h2 (hc2.obj hb1 hb) Tryz.underlying29 rfl (by kernel_rfl), hR _ ((hc1.mono (fun _ h => .inl (.inl h))).trans hc2 (fun _ h => .inl (.inr h)))⟩
set_option maxRecDepth 100000 in
set_option maxHeartbeats 2000000 in
theorem Read_calls (w : World) (hg : Glob w) (s : ByteArray) (hs : s.size ≤ 1048576) : Calls Tryz.prog 5 #[.string s] w (NPost s w) := by
  have HG := Lib.hid hg
  have D0 : Hid (Chg (fun _ => False) w (w.alloc (.cells #[.string ⟨#[]⟩, .slice none 0 0] 29 (0, 0)))) := Lib.hid ((Chg.refl _ w).alloc _)
  clear hg
  refine (callsIn_wide (n := 3)).1 ?_
  refine callsIn_of_wp_marks Tryz.func5 rfl trivial ?_ rfl
  simp only [Tryz.ntmps5, List.size_toArray, List.length_cons, List.length_nil, Nat.reduceAdd, Nat.reduceSub, Array.replicate_succ, Array.replicate_zero, List.push_toArray, List.append_toArray, List.nil_append, List.cons_append]
  gi_wp2_with (refine ⟨trivial, ?_⟩; first
    | (gi_at_call 17; refine (callsIn_wide.2 (cut_calls _ (HG.out.chg D0.out) s _ (by omega))).mono ?_; rintro e w1 ⟨a, b, ok, rfl, ha, hb, hc⟩; have HA := Lib.hid ha; have HB := Lib.hid hb; have HC1 := Lib.hid hc; clear ha hb hc; have q0 : (a.size : Int) + 1 ≤ 9223372036854775807 := by have := HA.out; omega)
    | (gi_at_call 19; refine (callsIn_wide.2 (trims_calls _ b _ (by have := HB.out; omega))).mono ?_; rintro e w2 ⟨x, rfl, hx, hw2⟩; have HX := Lib.hid (Nat.le_trans hx HB.out); clear hx; obtain rfl := hw2)
    | (gi_at_call 18; refine (callsIn_wide.2 (splitSeq_calls _ x _)).mono ?_; rintro e w3 ⟨rfl, rfl⟩)
    | fail "NOFIT")
  rename_i K HK
  obtain ⟨nb, hnb⟩ : ∃ nb, nb = w1.heap.size := ⟨_, rfl⟩
  obtain ⟨tx, htx⟩ : ∃ tx : ByteArray, tx = a ++ ⟨#[10]⟩ := ⟨_, rfl⟩
  have htx2 : tx.size ≤ 1048577 := by rw [htx, ByteArray.size_append]; have := HA.out; have e : (⟨#[10]⟩ : ByteArray).size = 1 := rfl; omega
  have hb0 : w.heap.size < nb := by have := HC1.out.size; rw [hnb]; rw [World.size_alloc] at this; omega
  have G0 : Chg (fun _ => False) w w1 := D0.out.trans HC1.out (fun _ h => h.elim)
  have hr0 : w1.heap[w.heap.size]? = some (.cells #[.string ⟨#[]⟩, .slice none 0 0] 29 (0, 0)) := HC1.out.obj (blkAlloc w _) (fun h => h)
  obtain ⟨W0, hW0⟩ : ∃ W0, W0 = ((((w1.alloc (.cells #[.string (a ++ ⟨#[10]⟩), .slice none 0 0] 29)).alloc (.cells #[.string x] 9)).alloc (.cells #[.string ⟨#[10]⟩] 9)).alloc (.cells #[.int .i64 0] 3)) := ⟨_, rfl⟩
  rw [← hW0, ← htx, ← hnb]
  have hN : W0.heap.size = nb + 4 := by rw [hW0, hnb]; simp
  have e0 : W0.heap[nb]? = some (.cells #[.string tx, .slice none 0 0] 29 (0, 0)) := by rw [hW0, hnb, htx]; exact blkOld (blkOld (blkOld (blkAlloc _ _) _) _) _
  have e1 : W0.heap[nb + 1]? = some (.cells #[.string x] 9 (0, 0)) := by rw [hW0, hnb]; exact blkOld (blkOld (by simpa using blkAlloc (w1.alloc _) _) _) _
  have e2 : W0.heap[nb + 1 + 1]? = some (.cells #[.string ⟨#[10]⟩] 9 (0, 0)) := by rw [hW0, hnb]; exact blkOld (by simpa [Nat.add_assoc] using blkAlloc ((w1.alloc _).alloc _) _) _
  have e3 : W0.heap[nb + 1 + 2]? = some (.cells #[.int .i64 0] 3 (0, 0)) := by rw [hW0, hnb]; simpa [Nat.add_assoc] using blkAlloc (((w1.alloc _).alloc _).alloc _) _
  have G1 : Chg (fun _ => False) w W0 := by rw [hW0]; exact (((G0.alloc _).alloc _).alloc _).alloc _
  have e4 : W0.heap[w.heap.size]? = some (.cells #[.string ⟨#[]⟩, .slice none 0 0] 29 (0, 0)) := by rw [hW0]; exact blkOld (blkOld (blkOld (blkOld hr0 _) _) _) _
  clear hW0 hnb htx
  have tail : ∀ W : World, NI w nb w.heap.size (nb + 1 + 1) (nb + 1) (nb + 1 + 2) W0.heap.size 17 tx W → W.heap[W0.heap.size]? = some (.deferred (some [])) → K { tmps := #[.string s, undef, .pointer (some ⟨w.heap.size, 0, none⟩), .int .i64 0, .string a, .string b, .bool ok, .pointer (some ⟨nb, 0, none⟩), undef, undef, undef, undef, undef, undef, undef, .tuple #[.string a, .string b, .bool ok], .string s, .tuple #[.string a, .string b, .bool ok], .string a, .string b, .bool ok, .string a, .string tx, .agg #[.string tx, .slice none 0 0], .string b, .string x, .func (.func 103) #[] #[.pointer (some ⟨nb + 1 + 1, 0, none⟩), .pointer (some ⟨nb + 1, 0, none⟩), .pointer (some ⟨nb + 1 + 2, 0, none⟩)], undef, undef, undef, undef, undef, undef, undef, undef, undef, undef, undef, undef, undef, undef, undef, undef, undef, undef, undef, undef, undef, undef, undef, undef, undef, undef, undef, undef, undef, undef, undef, undef, undef, undef, undef, undef, undef, undef, undef, undef, undef, undef, undef, undef, undef, undef, undef], defers := [{ target := .collected W0.heap.size, args := #[] }] } W := by
    intro W hI hK
    obtain ⟨A, c, r, ss, q1, q2, q3, q4, q5, q6, q7, q8, q9, q10⟩ := hI
    have C := Lib.hid (Format_calls W (HG.out.chg q10) tx (by omega) A c r ss q2)
    have H1 := Lib.hid q1
    have H2 := Lib.hid q2
    have H6 := Lib.hid q6
    have H10 := Lib.hid q10
    have H4 := Lib.hid (fun k (hk : r = some k) => (q4 k hk).2.1)
    have HKD := Lib.hid hK
    have HN := Lib.hid hN
    have HB0 := Lib.hid hb0
    have HTX := Lib.hid htx2
    obtain ⟨ft, hft⟩ : ∃ ft, ft = formT tx ss := ⟨_, rfl⟩
    obtain ⟨fe, hfe⟩ : ∃ fe, fe = formE tx ss := ⟨_, rfl⟩
    rw [← hft, ← hfe] at C
    have HFT := Lib.hid hft
    have HFE := Lib.hid hfe
    have n0 := blkCell q1 0
    have n1 := blkCell q1 1
    refine HK _ _ ?_
    clear q1 q2 q3 q4 q5 q6 q7 q8 q9 q10 hN hb0 e0 e1 e2 e3 e4 G0 G1 hr0 q0 htx2 hs hft hfe HK hK
    gi_wp2_with (refine ⟨trivial, ?_⟩; gi_at_call 6; refine (callsIn_wide.2 C.out).mono ?_; rintro e w9 ⟨rfl, hc⟩; have HC9 := Lib.hid hc; have n6 := hc.obj H6.out (fun h => h); have n9 := hc.obj H1.out (fun h => h); have z0 := blkFree n6 0; have z1 := blkFree n6 1; have y0 := blkCell n6 0; have y1 := blkCell n6 1; have x0 := blkCell n9 0; have x1 := blkCell n9 1; have N6 := Lib.hid n6; have N9 := Lib.hid n9; clear hc n6 n9 n0 n1)
    all_goals
      have hD9 := HC9.out.obj HKD.out (fun h => h)
      have hbD : w.heap.size ≠ W0.heap.size := by have := HN.out; have := HB0.out; omega
      have hG9 : ∀ W2, Chg (fun k => k = w.heap.size ∨ k = W0.heap.size) w9 W2 → Chg (fun _ => False) w W2 := fun W2 h => (H10.out.trans HC9.out (fun _ h => h.elim)).trans h (fun k hk => .inr (by have := HN.out; have := HB0.out; rcases hk with e | e <;> omega))
    · exact read_fin _ _ _ N6.out hD9 hbD rfl (fun W2 h2 => ⟨⟨#[]⟩, none, 0, none, [], 3, rfl, SRow.nil _, Nat.zero_le _, hG9 W2 h2, .inl ⟨rfl, rfl, rfl⟩⟩)
    · exact read_fin _ _ _ N6.out hD9 hbD rfl (fun W2 h2 => ⟨⟨#[]⟩, none, 0, none, [], 3, rfl, SRow.nil _, Nat.zero_le _, hG9 W2 h2, .inl ⟨rfl, rfl, rfl⟩⟩)
    · rename_i g1 g2
      have e1 := (str_eq ft s).1 g2
      exact read_fin _ _ _ N6.out hD9 hbD rfl (fun W2 h2 => ⟨tx, A, c, r, ss, 0, rfl, (H2.out.chg HC9.out (fun _ _ h => h)).chg h2 (fun k hk h3 => by rcases h3 with e | e; exact SRow.ne H2.out H6.out (by decide) (by rw [hk, e]); exact H4.out k hk e), by have := HTX.out; omega, hG9 W2 h2, .inr ⟨rfl, by rw [← HFT.out]; exact e1, by rw [← HFE.out]; exact g1⟩⟩)
  refine wpIn_range_box (F := Fence.wide) rfl (by decide) (gf := 103) (lb := #[.pointer (some ⟨nb + 1 + 1, 0, none⟩), .pointer (some ⟨nb + 1, 0, none⟩), .pointer (some ⟨nb + 1 + 2, 0, none⟩)]) rfl trivial (enters_of Tryz.func103 (by kernel_rfl) rfl) 1048576 (nb + 1) (by omega) rfl (SqK (nb + 1 + 1) (nb + 1) (nb + 1 + 2)) (SqSt (nb + 1 + 1) (nb + 1) (nb + 1 + 2) 1048576) ?seq ?St ?Kt ?Kb
    (NI w nb w.heap.size (nb + 1 + 1) (nb + 1) (nb + 1 + 2) W0.heap.size 16 tx) (fun c W => c = .exit 0 ∧ NI w nb w.heap.size (nb + 1 + 1) (nb + 1) (nb + 1 + 2) W0.heap.size 17 tx W) ?Ia ?Ip ?Is ?Xp (fun y => { tmps := #[.string s, undef, .pointer (some ⟨w.heap.size, 0, none⟩), .int .i64 0, .string a, .string b, .bool ok, .pointer (some ⟨nb, 0, none⟩), .string y, undef, undef, undef, undef, undef, undef, .tuple #[.string a, .string b, .bool ok], .string s, .tuple #[.string a, .string b, .bool ok], .string a, .string b, .bool ok, .string a, .string tx, .agg #[.string tx, .slice none 0 0], .string b, .string x, .func (.func 103) #[] #[.pointer (some ⟨nb + 1 + 1, 0, none⟩), .pointer (some ⟨nb + 1, 0, none⟩), .pointer (some ⟨nb + 1 + 2, 0, none⟩)], .string y, undef, undef, undef, undef, undef, undef, undef, undef, undef, undef, undef, undef, undef, undef, undef, undef, undef, undef, undef, undef, undef, undef, undef, undef, undef, undef, undef, undef, undef, undef, undef, undef, undef, undef, undef, undef, undef, undef, undef, undef, undef, undef, undef, undef, undef, undef], defers := [] }) ?assign ?body ?done ?stop
  case seq =>
    intro l J Jx W hSt hJ hY h0
    exact sq_seq 2 1048576 _ _ _ (by decide) (by decide) (by omega) (by omega) l J Jx W hSt hJ hY h0
  case St =>
    intro o o'
    exact ⟨blkOld (blkOld e2 _) _, blkOld (blkOld e3 _) _, x, by have := HX.out; omega, blkOld (blkOld e1 _) _⟩
  case Kt =>
    intro A B C h k
    exact h.trans k
  case Kb =>
    intro W o
    exact ⟨World.putObj_heap_other (by omega), World.putObj_heap_other (by omega), World.putObj_heap_other (by omega)⟩
  case Ia =>
    intro o o'
    exact ⟨none, 0, none, [], blkOld (blkOld e0 _) _, SRow.nil _, Nat.zero_le _, (fun _ h => nomatch h), by rw [World.size_alloc, World.size_alloc]; omega, blkOld (blkOld e4 _) _, ⟨_, blkOld (blkOld e2 _) _⟩, ⟨_, blkOld (blkOld e1 _) _⟩, ⟨_, blkOld (blkOld e3 _) _⟩, (G1.alloc _).alloc _⟩
  case Ip =>
    intro W o h
    exact h.chg (Chg.put W _ o) (by omega) (by omega) (by omega) (by omega) (by omega) (by omega)
  case Is =>
    intro W v h
    exact h.set v (by omega) (by omega) (by omega) (by omega) (by omega)
  case Xp =>
    rintro c W o ⟨rfl, h⟩
    exact ⟨rfl, h.chg (Chg.put W _ o) (by omega) (by omega) (by omega) (by omega) (by omega) (by omega)⟩
  case assign =>
    intro l x W K hK
    gi_wp2
    exact hK
  case body =>
    intro l y W hy hI
    obtain ⟨A, c, r, ss, q1, q2, q3, q4, q5, q6, q7, q8, q9, q10⟩ := hI
    have hg1 := Lib.hid (HG.out.chg q10)
    by_cases hz : y.toList.isEmpty = true
    · have HN := Lib.hid hN
      clear hN
      gi_wp2
      exact ⟨⟨rfl, rfl⟩, rfl, A, c, r, ss, q1, q2, by omega, q4, q5, q6, q7, q8, q9, q10⟩
    · have HY := Lib.hid hy
      have H1 := Lib.hid q1
      have H2 := Lib.hid q2
      have H3 := Lib.hid q3
      have H4 := Lib.hid q4
      have H5 := Lib.hid q5
      have H6 := Lib.hid q6
      have H7 := Lib.hid q7
      have H8 := Lib.hid q8
      have H9 := Lib.hid q9
      have H10 := Lib.hid q10
      have HN := Lib.hid hN
      have HB0 := Lib.hid hb0
      have E := Lib.hid (And.intro e0 (And.intro e1 (And.intro e2 (And.intro e3 e4))))
      have HG0 := Lib.hid (And.intro G0 G1)
      clear hy q1 q2 q3 q4 q5 q6 q7 q8 q9 q10 hN hb0 e0 e1 e2 e3 e4 G0 G1 hr0 q0 htx2 hs
      gi_wp2_with (first
        | (refine ⟨trivial, ?_⟩; first
          | (gi_at_call 20; refine (CallsIn.inRound l (callsIn_wide.2 (trimp_calls _ y _))).mono ?_; rintro e w2 ⟨p, rfl, hp, hw2⟩; obtain rfl := hw2; have HP := Lib.hid (Nat.le_trans hp HY.out); clear hp)
          | (gi_at_call 17; refine (CallsIn.inRound l (callsIn_wide.2 (cut_calls _ hg1.out p _ (by have := HP.out; omega)))).mono ?_; rintro e w3 ⟨i, t, ok3, rfl, hi, ht, hc⟩; have HI3 := Lib.hid (Nat.le_trans hi HP.out); have HT3 := Lib.hid (Nat.le_trans ht HP.out); have HC3 := Lib.hid hc; clear hi ht hc)
          | (gi_at_call 16; have hh4 := HB4.out; clear hh4; refine (CallsIn.inRound l (callsIn_wide.2 (Unhex_calls _ t (by have := HT3.out; omega)))).mono ?_; rintro e w5 ⟨t5, ok5, rfl, hi, hc⟩; have HB5 := Lib.hid (hc.obj (blkSet HB4.out 0 (.string i4)) (fun h => h)); have G6 := Lib.hid (((G4.out.setCell (p := ⟨w3.heap.size, 0, none⟩) (.inr HC3.out.size) (.string i4)).trans hc (fun _ h => h.elim)).setCell (p := ⟨w3.heap.size, 1, none⟩) (.inr HC3.out.size) (.string t5)); have HB6 := Lib.hid (blkSet HB5.out 1 (.string t5)); have k5 := blkCell HB5.out 1; have f5 := blkFree HB5.out 1; have m0 := blkCell HB6.out 0; have m1 := blkCell HB6.out 1; have N6 := Lib.hid (G6.out.obj H1.out (fun h => h)); have m2 := blkCell N6.out 1; clear hi hc k0 f0)
          | (gi_at_call 16; refine (CallsIn.inRound l (callsIn_wide.2 (Unhex_calls _ i (by have := HI3.out; omega)))).mono ?_; rintro e w4 ⟨i4, ok4, rfl, hi, hc⟩; have HB4 := Lib.hid (hc.obj (blkAlloc w3 _) (fun h => h)); have G4 := Lib.hid ((HC3.out.alloc _).trans hc (fun _ h => h.elim)); have k0 := blkCell HB4.out 0; have f0 := blkFree HB4.out 0; clear hi hc)
          | fail "NOFIT")
        | (gi_at_builtin; refine wpListIn_sappend (w5.setCell ⟨w3.heap.size, 1, none⟩ (.string t5)) rfl (.tmp 51) (.tmp 53) 27 32 rfl Tryz.underlying27 elemSg Sg.len Sg.one (.slice A ss.length c) r ss ⟨i4, t5⟩ rfl (by simp [Act.eval]) (H2.out.chg G6.out (fun _ _ h => h)) (by have := H3.out; omega) (by decide) ?_; intro A8 c8 w8 r8 hrow8 hnext8 hgrow8; have HB8 := Lib.hid ((((Chg.refl (fun k => r = some k) (w5.setCell ⟨w3.heap.size, 1, none⟩ (.string t5))).alloc _).grown hgrow8 (fun _ h => .inl h)).obj N6.out (SRow.ne H2.out H1.out (by decide))); have k8 := blkCell HB8.out 1; have f8 := blkFree HB8.out 1; have ST := Lib.hid (NI.step H1.out H2.out H4.out H5.out H6.out H7.out H8.out H9.out H10.out G6.out hrow8 hnext8 hgrow8 (Nat.le_of_lt HB0.out) (by have := HN.out; omega) (by have := HB0.out; omega) (by omega) (by omega) (by omega) _ rfl); clear hrow8 hnext8 hgrow8 k5 f5 m0 m1 m2))
      all_goals
        rename_i hlen
        have st := ST.out
        rw [show (ss ++ [(⟨i4, t5⟩ : Sg)]).length = ss.length + 1 by simp] at st
        obtain ⟨k1, k2, k3, k4⟩ := st
        have := H3.out
      · exact ⟨k2, rfl, k1 17 (by omega)⟩
      · exact ⟨k2, k3, k1 16 (by omega)⟩
  case done =>
    intro W hI hK
    exact tail W (by obtain ⟨A, c, r, ss, q1, q2, q3, q4⟩ := hI; exact ⟨A, c, r, ss, q1, q2, by omega, q4⟩) hK
  case stop =>
    rintro c W ⟨rfl, hI⟩ hK
    exact wpIn_exit (tail W hI hK)
end Go.Proofs.YtmbipabiagdaaaaGreatDoor

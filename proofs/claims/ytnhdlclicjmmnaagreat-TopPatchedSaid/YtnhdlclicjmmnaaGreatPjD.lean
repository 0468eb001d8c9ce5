/- TopPatched: bill's Make. -/
import Derived.Test.YtnhdlclicjmmnaaGreatPjC
import Derived.Laws.ResultCell
namespace Go.Proofs.YtnhdlclicjmmnaaGreat
open Go.RowKit Go.Lib Go.Shelf
attribute [local go_sem] Oper.semAt_some
/-- What Make answers. -/
def MakeB (w : World) (x : ByteArray) (e : Ending) (w' : World) : Prop :=
  ∃ A cap r, e = .returned (.tuple #[.agg #[.int .i64 1, .int .i64 x.size, .int .i64 128, .string (sumF [x]), .string (rootF (lvT x (chunkN x.size 128))), .slice A (lvT x (chunkN x.size 128)).length cap], .int .i64 0]) ∧
    TRow w' (.slice A (lvT x (chunkN x.size 128)).length cap) r (lvT x (chunkN x.size 128)) ∧ (∀ j, r = some j → w.heap.size ≤ j) ∧ Chg (fun _ => False) w w' ∧ checkE 1 x.size 128 (sumF [x]) (rootF (lvT x (chunkN x.size 128))) (lvT x (chunkN x.size 128)) = 0
theorem FB.rr {w : World} {v : Value} {g : Nat} {bs : List UInt8} (h : FB w v g bs) : RR w g bs := by
  obtain ⟨c, cur, _, hh, hc⟩ := h
  refine ⟨cur, _, hh, ?_, hc⟩
  by_cases h0 : bs = []
  · rw [h0]; exact Nat.zero_le _
  · have hl : 0 < bs.length := List.length_pos_iff.2 h0
    have := hc (bs.length - 1) (bs[bs.length - 1]'(by omega)) (List.getElem?_eq_getElem (by omega))
    have := (Array.getElem?_eq_some_iff.1 this).1
    omega
set_option maxRecDepth 100000 in
set_option maxHeartbeats 2000000 in
theorem bMake_calls (w : World) (x : ByteArray) (h0 : 1 ≤ x.size) (h1 : x.size ≤ 8192) : Calls Tryz.prog 4 #[.int .i64 1, .int .i64 128, .string x] w (MakeB w x) := by
  have CP := Lib.hid (fun (w : World) => part_calls w 128)
  rw [show partN 128 = true from by decide] at CP
  have CS := Lib.hid (fun (w : World) (n : Nat) (q : StrsIn w (some ⟨n, 0, none⟩) [x]) => Sum_calls w (some ⟨n, 0, none⟩) 1 1 [x] q rfl (by show x.size + 0 ≤ _; omega))
  have d0 : decide ((8192 : Int) < (x.size : Int)) = false := decide_eq_false (by omega)
  refine (callsIn_wide (n := 3)).1 ?_
  refine callsIn_of_wp_marks Tryz.func4 rfl trivial ?_ rfl
  simp only [Tryz.ntmps4, List.size_toArray, List.length_cons, List.length_nil, Nat.reduceAdd, Nat.reduceSub, Array.replicate_succ, Array.replicate_zero, List.push_toArray, List.append_toArray, List.nil_append, List.cons_append]
  gi_wp2_with (refine ⟨trivial, ?_⟩; gi_at_call 19; refine (callsIn_wide.2 (CP.out _)).mono ?_; rintro e w1 ⟨rfl, hw⟩; obtain rfl := hw)
  obtain ⟨W0, hW0⟩ : ∃ W0, w.alloc (.cells #[.int .i64 0, .int .i64 0, .int .i64 0, .string ⟨#[]⟩, .string ⟨#[]⟩, .slice none 0 0] 27) = W0 := ⟨_, rfl⟩
  have z0 : w.heap.size + 1 = W0.heap.size := by rw [← hW0]; simp
  have g0 : Chg (fun _ => False) w W0 := by rw [← hW0]; exact (Chg.refl _ w).alloc _
  have b0 : W0.heap[w.heap.size]? = some (.cells #[.int .i64 0, .int .i64 0, .int .i64 0, .string ⟨#[]⟩, .string ⟨#[]⟩, .slice none 0 0] 27 (0, 0)) := by rw [← hW0]; exact blkAlloc w _
  rw [hW0, z0]
  obtain ⟨rb, hrb⟩ : ∃ rb, w.heap.size = rb := ⟨_, rfl⟩
  rw [hrb] at b0 z0
  simp only [hrb]
  clear hW0
  refine ⟨trivial, (callsIn_wide.2 (CS.out _ _ (strsIn1 _ _))).mono ?_⟩
  rintro e w2 ⟨rfl, hc⟩
  have g2 : Chg (fun _ => False) w w2 := (g0.alloc _).trans hc (fun _ h => h.elim)
  have b2 := hc.obj (blkOld b0 (.cells #[.string x] 9)) (fun h => h)
  have HRB := Lib.hid hrb
  have HG2 := Lib.hid g2
  have HB2 := Lib.hid b2
  clear hc g0 b0 z0 g2 b2 hrb CP CS
  have hv := Lib.run_convert_string_bytes (P := Tryz.prog) (w2.alloc (.cells #[.int .i64 1, .int .i64 x.size, .int .i64 128, .string (sumF [x]), .string ⟨#[]⟩, .slice none 0 0] 27)) 9 22 5 x Tryz.underlying9 Tryz.underlying22 Tryz.underlying5
  obtain ⟨C, hC⟩ : ∃ C, grownCap (w2.alloc (.cells #[.int .i64 1, .int .i64 x.size, .int .i64 128, .string (sumF [x]), .string ⟨#[]⟩, .slice none 0 0] 27)) x.size 0 5 = C := ⟨_, rfl⟩
  have hCL : x.size ≤ C := by rw [← hC]; exact grownCap_ge _ _ _ _
  obtain ⟨W4, hW4⟩ : ∃ W4, bytesWorld (w2.alloc (.cells #[.int .i64 1, .int .i64 x.size, .int .i64 128, .string (sumF [x]), .string ⟨#[]⟩, .slice none 0 0] 27)) 5 x = W4 := ⟨_, rfl⟩
  obtain ⟨g, hg⟩ : ∃ g, (w2.alloc (.cells #[.int .i64 1, .int .i64 x.size, .int .i64 128, .string (sumF [x]), .string ⟨#[]⟩, .slice none 0 0] 27)).heap.size = g := ⟨_, rfl⟩
  have hz4 : W4.heap.size = g + 1 := by rw [← hW4, bytesWorld_size, hg]
  have hc4 : Chg (fun _ => False) (w2.alloc (.cells #[.int .i64 1, .int .i64 x.size, .int .i64 128, .string (sumF [x]), .string ⟨#[]⟩, .slice none 0 0] 27)) W4 := by rw [← hW4]; exact bytesChg _ _ _ _
  have hR4 : RR W4 g x.data.toList := by
    obtain ⟨v, w', hr, hfb, _⟩ := FB.made (w2.alloc (.cells #[.int .i64 1, .int .i64 x.size, .int .i64 128, .string (sumF [x]), .string ⟨#[]⟩, .slice none 0 0] 27)) x
    rw [hv] at hr
    injection hr with h1 h2
    rw [← hW4, h2, ← hg]
    exact hfb.rr
  rw [hC, hW4, hg] at hv
  have hg2 : w2.heap.size + 1 = g := by rw [← hg]; simp
  have b4 := hc4.obj (blkOld HB2.out (.cells #[.int .i64 1, .int .i64 x.size, .int .i64 128, .string (sumF [x]), .string ⟨#[]⟩, .slice none 0 0] 27)) (fun h => h)
  have b5 := hc4.obj (blkAlloc w2 (.cells #[.int .i64 1, .int .i64 x.size, .int .i64 128, .string (sumF [x]), .string ⟨#[]⟩, .slice none 0 0] 27)) (fun h => h)
  have g4 : Chg (fun _ => False) w W4 := (HG2.out.alloc _).trans hc4 (fun _ h => h.elim)
  have hb8 := HG2.out.size
  obtain ⟨b8, hbb⟩ : ∃ b8, w2.heap.size = b8 := ⟨_, rfl⟩
  rw [hbb] at b5 hg2 hb8
  simp only [hbb]
  have HV := Lib.hid hv
  have HB4 := Lib.hid b4
  have HB5 := Lib.hid b5
  have HG4 := Lib.hid g4
  have HR4 := Lib.hid hR4
  clear hC hW4 hg hc4 b4 b5 g4 hR4 hv
  have hv := HV.out
  gi_wp2_with (refine ⟨trivial, ?_⟩; gi_at_call 21; refine (callsIn_wide.2 (chunk_calls _ g x.size C 128 (by decide))).mono ?_; rintro e w5 ⟨rfl, hw5⟩; have HC5 := Lib.hid hw5; clear hw5)
  have hrb0 : rb < b8 := by rw [← hbb]; exact blkLt HB2.out
  clear hv hbb
  have hD : w5.heap.size = g + 3 := by rw [HC5.out]; simp [hz4]
  have g5 : Chg (fun _ => False) W4 w5 := by rw [HC5.out]; exact ((Chg.refl _ W4).alloc _).alloc _
  have q1 : w5.heap[g + 1]? = some (.cells #[.slice (some ⟨g, 0, none⟩) x.size C] 22 (0, 0)) := by rw [HC5.out, ← hz4]; exact blkOld (blkAlloc W4 _) _
  have q2 : w5.heap[g + 1 + 1]? = some (.cells #[.int .i64 128] 3 (0, 0)) := by
    rw [HC5.out, ← hz4]
    have := blkAlloc (W4.alloc (.cells #[.slice (some ⟨g, 0, none⟩) x.size C] 22 (0, 0))) (.cells #[.int .i64 128] 3 (0, 0))
    rwa [World.size_alloc] at this
  have hI0 : BI w b8 g (g + 1) (g + 1 + 1) rb (g + 3) C x 0 w5 := ⟨none, 0, none, g5.obj HB5.out (fun h => h), SRow.nil _, (fun _ h => nomatch h), HR4.out.chg g5 (fun h => h), ⟨q1, q2⟩, g5.obj HB4.out (fun h => h), HG4.out.trans g5 (fun _ h => h.elim)⟩
  refine wpIn_range_cnt (F := Fence.wide) rfl (by decide) (gf := 46) (lb := #[.pointer (some ⟨g + 1, 0, none⟩), .pointer (some ⟨g + 1 + 1, 0, none⟩)]) rfl trivial (enters_of Tryz.func46 (by kernel_rfl) rfl) (chunkN x.size 128) (fun k => chunkV g 128 x.size k) rfl (CkSt (g + 1) (g + 1 + 1) g x.size C 128)
    ?seq (BI w b8 g (g + 1) (g + 1 + 1) rb (g + 3) C x) ?IS ?Id ?Ia ?Ip (fun k => { tmps := #[.int .i64 1, .int .i64 128, .string x, undef, undef, undef, .pointer (some ⟨rb, 0, none⟩), .int .i64 0, .pointer (some ⟨b8, 0, none⟩), chunkV g 128 x.size k, undef, .int .i64 128, .bool true, .bool false, .bool false, .string x, .int .i64 x.size, .bool false, .bool false, undef, .int .i64 1, .string x, .int .i64 x.size, .int .i64 128, .string x, .slice (some ⟨W0.heap.size, 0, none⟩) 1 1, .string (sumF [x]), .agg #[.int .i64 1, .int .i64 x.size, .int .i64 128, .string (sumF [x]), .string ⟨#[]⟩, .slice none 0 0], .string x, .slice (some ⟨g, 0, none⟩) x.size C, .int .i64 128, .func (.func 46) #[] #[.pointer (some ⟨g + 1, 0, none⟩), .pointer (some ⟨g + 1 + 1, 0, none⟩)], chunkV g 128 x.size k, undef, undef, undef, undef, undef, undef, undef, undef, undef, undef, undef, undef, undef, undef, undef, undef, undef, undef, undef], defers := [] }) ?assign ?body ?done
  case seq =>
    intro l J W hSt hJ hY h0
    exact chunk_seq 2 (g + 1) (g + 1 + 1) g x.size C 128 (by decide) (by decide) (by decide) h1 hCL l J W hSt hJ hY h0
  case IS =>
    rintro k W ⟨_, _, _, _, _, _, _, h, _⟩
    exact h
  case Id =>
    intro k W h
    exact h.kept ((Chg.refl _ W).drew)
  case Ia =>
    intro o o'
    exact hI0.kept (((Chg.refl _ w5).alloc o).alloc o')
  case Ip =>
    intro k W o h
    rw [hD]
    exact h.chg (Chg.putO W _ o) (by omega) rfl (by omega) (by omega) (by omega) (by omega) (by omega)
  case assign =>
    intro l k W K hk hK
    gi_wp2
    exact hK
  case body =>
    intro l k W hk hlt hI
    obtain ⟨A, cap, r, q1, q2, q3, q4, q5, q7, q8⟩ := hI
    have c5 : W.cell? ⟨b8, 5, none⟩ = some (.slice A (lvT x k).length cap) := blkCell q1 5
    have f5 := blkFree q1 5
    have HRR := Lib.hid q4
    have H1 := Lib.hid q1
    have H2 := Lib.hid q2
    have H3 := Lib.hid q3
    have H5 := Lib.hid q5
    have H7 := Lib.hid q7
    have H8 := Lib.hid q8
    have hlt2 : g + 3 + 1 < W.heap.size := by rw [← hD]; exact hlt
    have CLF := Lib.hid (fun w => tLeaf_calls w (chB x k) (by rw [chB_size]; omega))
    have hk2 : k < 100 := Nat.lt_of_lt_of_le hk (by unfold chunkN; omega)
    clear q1 q2 q3 q4 q5 q7 q8 g5 hI0 hz4 d0
    -- BODY
    gi_wp2
    refine wpIn_region_any (by kernel_rfl) (anyIn_of_any (by kernel_rfl) (fun ⟨_, _, h⟩ => h) _ _ _ _ (wpAny_of_held (S := fun w' => RR w' g x.data.toList) _ _ _ _ ?_))
    have hHeld : RR W.drew g x.data.toList := HRR.out
    change wpAnyH _ _ _ _ _ _ _ _ W.drew
    refine held_take 0 (some 33) ?vk0 rfl rfl (by kernel_rfl) (by kernel_rfl) (by kernel_rfl) (fun _ _ _ h => h) (by go_simp) (by assumption) ?hyk0 ?restk0
    case hyk0 => (intro w hSw; (try dsimp only at hSw); go_simp; try with_reducible rfl)
    (try simp only [Act.put, List.setIfInBounds_toArray, List.set_cons_zero, List.set_cons_succ])
    refine held_take 2 (some 35) ?vk2 rfl rfl (by kernel_rfl) (by kernel_rfl) (by kernel_rfl) (fun _ _ _ h => h) (by go_simp) (by assumption) ?hyk2 ?restk2
    case hyk2 => (intro w hSw; (try dsimp only at hSw); go_simp; try with_reducible rfl)
    (try simp only [Act.put, List.setIfInBounds_toArray, List.set_cons_zero, List.set_cons_succ])
    refine held_take 3 (some 36) (.string (chB x k)) rfl rfl (by kernel_rfl) (by kernel_rfl) (by kernel_rfl) (fun _ _ _ h => h) (by go_simp) (by assumption) ?hyk3 ?restk3
    case hyk3 => (intro w hSw; have hcv := RR.conv hSw k; go_simp)
    (try simp only [Act.put, List.setIfInBounds_toArray, List.set_cons_zero, List.set_cons_succ])
    refine wpAnyH_ready (rs := [1, 4]) (by kernel_rfl) (by simp) ?_
    refine AllReadyH.cons rfl (fun K hK => ?_) (AllReadyH.cons rfl (fun K hK => ?_) AllReadyH.nil)
    · go_simp
      refine hK.out _ _ (hHeld) (fun hHeld => ?_)
      clear hK K
      (try simp only [Act.put, List.setIfInBounds_toArray, List.set_cons_zero, List.set_cons_succ])
      refine wpAnyH_ready (rs := [4]) (by kernel_rfl) (by simp) ?_
      refine AllReadyH.cons rfl (fun K hK => ?_) AllReadyH.nil
      go_simp
      refine (CLF.out _).mono ?_
      rintro e w6 ⟨rfl, hc6⟩
      have HC6 := Lib.hid (((Chg.refl (fun _ => False) W).drew).trans hc6 (fun _ h => h.elim))
      have c6 : w6.cell? ⟨b8, 5, none⟩ = some (.slice A (lvT x k).length cap) := blkCell (HC6.out.obj H1.out (fun h => h)) 5
      have R6 := Lib.hid (HRR.out.chg HC6.out (fun h => h))
      clear hc6
      refine hK.out _ _ (R6.out) (fun hHeld => ?_)
      clear hK K
      (try simp only [Act.put, List.setIfInBounds_toArray, List.set_cons_zero, List.set_cons_succ])
      refine wpAnyH_ready (rs := [5]) (by kernel_rfl) (by simp) ?_
      refine AllReadyH.cons rfl (fun K hK => ?_) AllReadyH.nil
      go_simp
      have R7 : Hid (RR (w6.alloc (.cells #[.string (tleafF (chB x k))] 9)) g x.data.toList) := Lib.hid (R6.out.chg ((Chg.refl (fun _ => False) w6).alloc _) (fun h => h))
      have c7 : (w6.alloc (.cells #[.string (tleafF (chB x k))] 9)).cell? ⟨b8, 5, none⟩ = some (.slice A (lvT x k).length cap) := blkCell (blkOld (HC6.out.obj H1.out (fun h => h)) _) 5
      refine hK.out _ _ (R7.out) (fun hHeld => ?_)
      clear hK K
      (try simp only [Act.put, List.setIfInBounds_toArray, List.set_cons_zero, List.set_cons_succ])
      refine wpAnyH_ready (rs := [6]) (by kernel_rfl) (by simp) ?_
      refine AllReadyH.cons rfl (fun K hK => ?_) AllReadyH.nil
      refine step_sappend w6 rfl (.tmp 34) (.tmp 38) 25 16 rfl Tryz.underlying25 elemT encT_len encT_one (.slice A (lvT x k).length cap) r (lvT x k) (tleafF (chB x k)) (by simp [Act.eval, Act.put]) (by simp [Act.eval, Act.put]) (H2.out.chg HC6.out (fun _ _ h => h)) (by rw [lvT_len]; omega) (by decide) ?_
      intro A1 cp1 w7 r1 hrow hnext hgrow
      rw [← lvT_succ] at hrow
      rw [← lvT_succ]
      have c7g : Chg (fun j => r = some j) W w7 := (HC6.out.mono (S' := fun j => r = some j) (fun _ h => h.elim)).trans (((Chg.refl (fun j => r = some j) w6).alloc _).grown hgrow (fun _ h => .inl h)) (fun _ h => .inl h)
      have NB := Lib.hid (SRow.ne H2.out H1.out (by decide))
      have B7 := Lib.hid (c7g.obj H1.out NB.out)
      have d7 := blkCell B7.out 5
      have g7 := blkFree B7.out 5
      have FN := Lib.hid (BI.more H1.out H2.out H3.out HRR.out H5.out H7.out H8.out hb8 (by omega) hlt2 HC6.out hrow hnext hgrow)
      have R8 := Lib.hid (HRR.out.chg c7g (fun e => rr_ne H2.out HRR.out e))
      clear hrow hnext hgrow c7g
      refine hK.out _ _ (R8.out) (fun hHeld => ?_)
      clear hK K
      (try simp only [Act.put, List.setIfInBounds_toArray, List.set_cons_zero, List.set_cons_succ])
      refine held_take 7 (some 40) ?va7 rfl rfl (by kernel_rfl) (by kernel_rfl) (by kernel_rfl) (fun _ _ _ h => h) (by go_simp) (by assumption) ?hya7 ?resta7
      case hya7 => (intro w hSw; (try dsimp only at hSw); go_simp; try with_reducible rfl)
      (try simp only [Act.put, List.setIfInBounds_toArray, List.set_cons_zero, List.set_cons_succ])
      refine wpAnyH_ready (rs := [8]) (by kernel_rfl) (by simp) ?_
      refine AllReadyH.cons rfl (fun K hK => ?_) AllReadyH.nil
      go_simp
      have R9 : Hid (RR (w7.setCell ⟨b8, 5, none⟩ (.slice A1 (lvT x (k + 1)).length cp1)) g x.data.toList) := Lib.hid (by obtain ⟨_, _, _, _, _, _, h, _⟩ := FN.out.1; exact h)
      refine hK.out _ _ (R9.out) (fun hHeld => ?_)
      clear hK K
      (try simp only [Act.put, List.setIfInBounds_toArray, List.set_cons_zero, List.set_cons_succ])
      refine wpAnyH_done (by kernel_rfl) ?_ _
      exact ⟨⟨FN.out.2.block _ (by omega) (fun h => by rcases h with h | h; omega; exact (H3.out _ h).2.2 (by omega)), FN.out.2.block _ (by omega) (fun h => by rcases h with h | h; omega; exact (H3.out _ h).2.1 (by omega))⟩, FN.out.1⟩
    · go_simp
      refine (CLF.out _).mono ?_
      rintro e w6 ⟨rfl, hc6⟩
      have HC6 := Lib.hid (((Chg.refl (fun _ => False) W).drew).trans hc6 (fun _ h => h.elim))
      have c6 : w6.cell? ⟨b8, 5, none⟩ = some (.slice A (lvT x k).length cap) := blkCell (HC6.out.obj H1.out (fun h => h)) 5
      have R6 := Lib.hid (HRR.out.chg HC6.out (fun h => h))
      clear hc6
      refine hK.out _ _ (R6.out) (fun hHeld => ?_)
      clear hK K
      (try simp only [Act.put, List.setIfInBounds_toArray, List.set_cons_zero, List.set_cons_succ])
      refine wpAnyH_ready (rs := [1, 5]) (by kernel_rfl) (by simp) ?_
      refine AllReadyH.cons rfl (fun K hK => ?_) (AllReadyH.cons rfl (fun K hK => ?_) AllReadyH.nil)
      · go_simp
        refine hK.out _ _ (hHeld) (fun hHeld => ?_)
        clear hK K
        (try simp only [Act.put, List.setIfInBounds_toArray, List.set_cons_zero, List.set_cons_succ])
        refine wpAnyH_ready (rs := [5]) (by kernel_rfl) (by simp) ?_
        refine AllReadyH.cons rfl (fun K hK => ?_) AllReadyH.nil
        go_simp
        have R7 : Hid (RR (w6.alloc (.cells #[.string (tleafF (chB x k))] 9)) g x.data.toList) := Lib.hid (R6.out.chg ((Chg.refl (fun _ => False) w6).alloc _) (fun h => h))
        have c7 : (w6.alloc (.cells #[.string (tleafF (chB x k))] 9)).cell? ⟨b8, 5, none⟩ = some (.slice A (lvT x k).length cap) := blkCell (blkOld (HC6.out.obj H1.out (fun h => h)) _) 5
        refine hK.out _ _ (R7.out) (fun hHeld => ?_)
        clear hK K
        (try simp only [Act.put, List.setIfInBounds_toArray, List.set_cons_zero, List.set_cons_succ])
        refine wpAnyH_ready (rs := [6]) (by kernel_rfl) (by simp) ?_
        refine AllReadyH.cons rfl (fun K hK => ?_) AllReadyH.nil
        refine step_sappend w6 rfl (.tmp 34) (.tmp 38) 25 16 rfl Tryz.underlying25 elemT encT_len encT_one (.slice A (lvT x k).length cap) r (lvT x k) (tleafF (chB x k)) (by simp [Act.eval, Act.put]) (by simp [Act.eval, Act.put]) (H2.out.chg HC6.out (fun _ _ h => h)) (by rw [lvT_len]; omega) (by decide) ?_
        intro A1 cp1 w7 r1 hrow hnext hgrow
        rw [← lvT_succ] at hrow
        rw [← lvT_succ]
        have c7g : Chg (fun j => r = some j) W w7 := (HC6.out.mono (S' := fun j => r = some j) (fun _ h => h.elim)).trans (((Chg.refl (fun j => r = some j) w6).alloc _).grown hgrow (fun _ h => .inl h)) (fun _ h => .inl h)
        have NB := Lib.hid (SRow.ne H2.out H1.out (by decide))
        have B7 := Lib.hid (c7g.obj H1.out NB.out)
        have d7 := blkCell B7.out 5
        have g7 := blkFree B7.out 5
        have FN := Lib.hid (BI.more H1.out H2.out H3.out HRR.out H5.out H7.out H8.out hb8 (by omega) hlt2 HC6.out hrow hnext hgrow)
        have R8 := Lib.hid (HRR.out.chg c7g (fun e => rr_ne H2.out HRR.out e))
        clear hrow hnext hgrow c7g
        refine hK.out _ _ (R8.out) (fun hHeld => ?_)
        clear hK K
        (try simp only [Act.put, List.setIfInBounds_toArray, List.set_cons_zero, List.set_cons_succ])
        refine held_take 7 (some 40) ?vb7 rfl rfl (by kernel_rfl) (by kernel_rfl) (by kernel_rfl) (fun _ _ _ h => h) (by go_simp) (by assumption) ?hyb7 ?restb7
        case hyb7 => (intro w hSw; (try dsimp only at hSw); go_simp; try with_reducible rfl)
        (try simp only [Act.put, List.setIfInBounds_toArray, List.set_cons_zero, List.set_cons_succ])
        refine wpAnyH_ready (rs := [8]) (by kernel_rfl) (by simp) ?_
        refine AllReadyH.cons rfl (fun K hK => ?_) AllReadyH.nil
        go_simp
        have R9 : Hid (RR (w7.setCell ⟨b8, 5, none⟩ (.slice A1 (lvT x (k + 1)).length cp1)) g x.data.toList) := Lib.hid (by obtain ⟨_, _, _, _, _, _, h, _⟩ := FN.out.1; exact h)
        refine hK.out _ _ (R9.out) (fun hHeld => ?_)
        clear hK K
        (try simp only [Act.put, List.setIfInBounds_toArray, List.set_cons_zero, List.set_cons_succ])
        refine wpAnyH_done (by kernel_rfl) ?_ _
        exact ⟨⟨FN.out.2.block _ (by omega) (fun h => by rcases h with h | h; omega; exact (H3.out _ h).2.2 (by omega)), FN.out.2.block _ (by omega) (fun h => by rcases h with h | h; omega; exact (H3.out _ h).2.1 (by omega))⟩, FN.out.1⟩
      · go_simp
        have R7 : Hid (RR (w6.alloc (.cells #[.string (tleafF (chB x k))] 9)) g x.data.toList) := Lib.hid (R6.out.chg ((Chg.refl (fun _ => False) w6).alloc _) (fun h => h))
        have c7 : (w6.alloc (.cells #[.string (tleafF (chB x k))] 9)).cell? ⟨b8, 5, none⟩ = some (.slice A (lvT x k).length cap) := blkCell (blkOld (HC6.out.obj H1.out (fun h => h)) _) 5
        refine hK.out _ _ (R7.out) (fun hHeld => ?_)
        clear hK K
        (try simp only [Act.put, List.setIfInBounds_toArray, List.set_cons_zero, List.set_cons_succ])
        refine wpAnyH_ready (rs := [1]) (by kernel_rfl) (by simp) ?_
        refine AllReadyH.cons rfl (fun K hK => ?_) AllReadyH.nil
        go_simp
        refine hK.out _ _ (hHeld) (fun hHeld => ?_)
        clear hK K
        (try simp only [Act.put, List.setIfInBounds_toArray, List.set_cons_zero, List.set_cons_succ])
        refine wpAnyH_ready (rs := [6]) (by kernel_rfl) (by simp) ?_
        refine AllReadyH.cons rfl (fun K hK => ?_) AllReadyH.nil
        refine step_sappend w6 rfl (.tmp 34) (.tmp 38) 25 16 rfl Tryz.underlying25 elemT encT_len encT_one (.slice A (lvT x k).length cap) r (lvT x k) (tleafF (chB x k)) (by simp [Act.eval, Act.put]) (by simp [Act.eval, Act.put]) (H2.out.chg HC6.out (fun _ _ h => h)) (by rw [lvT_len]; omega) (by decide) ?_
        intro A1 cp1 w7 r1 hrow hnext hgrow
        rw [← lvT_succ] at hrow
        rw [← lvT_succ]
        have c7g : Chg (fun j => r = some j) W w7 := (HC6.out.mono (S' := fun j => r = some j) (fun _ h => h.elim)).trans (((Chg.refl (fun j => r = some j) w6).alloc _).grown hgrow (fun _ h => .inl h)) (fun _ h => .inl h)
        have NB := Lib.hid (SRow.ne H2.out H1.out (by decide))
        have B7 := Lib.hid (c7g.obj H1.out NB.out)
        have d7 := blkCell B7.out 5
        have g7 := blkFree B7.out 5
        have FN := Lib.hid (BI.more H1.out H2.out H3.out HRR.out H5.out H7.out H8.out hb8 (by omega) hlt2 HC6.out hrow hnext hgrow)
        have R8 := Lib.hid (HRR.out.chg c7g (fun e => rr_ne H2.out HRR.out e))
        clear hrow hnext hgrow c7g
        refine hK.out _ _ (R8.out) (fun hHeld => ?_)
        clear hK K
        (try simp only [Act.put, List.setIfInBounds_toArray, List.set_cons_zero, List.set_cons_succ])
        refine held_take 7 (some 40) ?vc7 rfl rfl (by kernel_rfl) (by kernel_rfl) (by kernel_rfl) (fun _ _ _ h => h) (by go_simp) (by assumption) ?hyc7 ?restc7
        case hyc7 => (intro w hSw; (try dsimp only at hSw); go_simp; try with_reducible rfl)
        (try simp only [Act.put, List.setIfInBounds_toArray, List.set_cons_zero, List.set_cons_succ])
        refine wpAnyH_ready (rs := [8]) (by kernel_rfl) (by simp) ?_
        refine AllReadyH.cons rfl (fun K hK => ?_) AllReadyH.nil
        go_simp
        have R9 : Hid (RR (w7.setCell ⟨b8, 5, none⟩ (.slice A1 (lvT x (k + 1)).length cp1)) g x.data.toList) := Lib.hid (by obtain ⟨_, _, _, _, _, _, h, _⟩ := FN.out.1; exact h)
        refine hK.out _ _ (R9.out) (fun hHeld => ?_)
        clear hK K
        (try simp only [Act.put, List.setIfInBounds_toArray, List.set_cons_zero, List.set_cons_succ])
        refine wpAnyH_done (by kernel_rfl) ?_ _
        exact ⟨⟨FN.out.2.block _ (by omega) (fun h => by rcases h with h | h; omega; exact (H3.out _ h).2.2 (by omega)), FN.out.2.block _ (by omega) (fun h => by rcases h with h | h; omega; exact (H3.out _ h).2.1 (by omega))⟩, FN.out.1⟩
    -- ENDBODY
  case done =>
    intro W hI hK
    obtain ⟨A, cap, r, q1, q2, q3, q4, q5, q7, q8⟩ := hI
    have c5 : W.cell? ⟨b8, 5, none⟩ = some (.slice A (lvT x (chunkN x.size 128)).length cap) := blkCell q1 5
    have c4 : W.cell? ⟨b8, 4, none⟩ = some (.string ⟨#[]⟩) := blkCell q1 4
    have f4 := blkFree q1 4
    have hnl : (lvT x (chunkN x.size 128)).length ≤ 1048576 := by rw [lvT_len]; unfold chunkN; omega
    have CR := Lib.hid (Root_calls W A cap r (lvT x (chunkN x.size 128)) q2 hnl (fun y hy => by rw [lvT_small x _ y hy]; decide))
    have HKD := Lib.hid hK
    have H1 := Lib.hid q1
    have H2 := Lib.hid q2
    have H3 := Lib.hid q3
    have H7 := Lib.hid q7
    have H8 := Lib.hid q8
    clear q1 q2 q3 q4 q5 q7 q8 g5 hI0 hz4 d0 hK
    obtain ⟨L, hL⟩ : ∃ L, lvT x (chunkN x.size 128) = L := ⟨_, rfl⟩
    have hchk := checkE_made x h0 h1
    have hLs : ∀ y ∈ L, y.size ≤ 1048576 := fun y hy => by rw [lvT_small x (chunkN x.size 128) y (by rw [hL]; exact hy)]; decide
    have HMB : Hid (MakeB w x = MakeB w x) := Lib.hid rfl
    rw [hL] at CR c5 H1 H2 hnl hchk
    obtain ⟨RT, hRT⟩ : ∃ RT, rootF L = RT := ⟨_, rfl⟩
    rw [hRT] at CR hchk
    gi_wp2_with (refine ⟨trivial, ?_⟩; fail)
    refine ⟨trivial, (callsIn_wide.2 CR.out).mono ?_⟩
    rintro e w6 ⟨rfl, hc6⟩
    have B6 := Lib.hid (hc6.obj H1.out (fun h => h))
    have HC6 := Lib.hid hc6
    have c0 : w6.cell? ⟨b8, 0, none⟩ = some (.int .i64 1) := blkCell B6.out 0
    have c1 : w6.cell? ⟨b8, 1, none⟩ = some (.int .i64 x.size) := blkCell B6.out 1
    have c2 : w6.cell? ⟨b8, 2, none⟩ = some (.int .i64 128) := blkCell B6.out 2
    have c3 : w6.cell? ⟨b8, 3, none⟩ = some (.string (sumF [x])) := blkCell B6.out 3
    have c4 : w6.cell? ⟨b8, 4, none⟩ = some (.string ⟨#[]⟩) := blkCell B6.out 4
    have c5 : w6.cell? ⟨b8, 5, none⟩ = some (.slice A L.length cap) := blkCell B6.out 5
    have f4 := blkFree B6.out 4
    clear hc6 CR
    gi_wp2_with (refine ⟨trivial, ?_⟩; fail)
    obtain ⟨W7, hW7⟩ : ∃ W7, w6.setCell ⟨b8, 4, none⟩ (.string RT) = W7 := ⟨_, rfl⟩
    have g7 : Chg (fun k => k = b8) w6 W7 := by rw [← hW7]; exact (Chg.refl (fun k => k = b8) w6).setCell (p := ⟨b8, 4, none⟩) (.inl rfl) _
    have b7 : W7.heap[b8]? = some (.cells #[.int .i64 1, .int .i64 x.size, .int .i64 128, .string (sumF [x]), .string RT, .slice A L.length cap] 27 (0, 0)) := by rw [← hW7]; simpa using blkSet B6.out 4 (.string RT)
    rw [hW7]
    have NB := Lib.hid (SRow.ne H2.out H1.out (by decide))
    have r7 : TRow W7 (.slice A L.length cap) r L := (H2.out.chg HC6.out (fun _ _ h => h)).chg g7 (fun k hk e => NB.out (by rw [hk, e]))
    have CC := Lib.hid (Check_calls W7 1 x.size 128 (sumF [x]) RT A cap r L r7 hnl hLs)
    rw [hchk] at CC
    have G7 : Hid (Chg (fun k => k = b8) W W7) := Lib.hid ((HC6.out.mono (S' := fun k => k = b8) (fun _ h => h.elim)).trans g7 (fun _ h => .inl h))
    have B7 := Lib.hid b7
    have R7 := Lib.hid r7
    clear hW7 g7 b7 r7 c0 c1 c2 c3 c4 c5 f4
    refine ⟨trivial, (callsIn_wide.2 CC.out).mono ?_⟩
    rintro e w8 ⟨rfl, hc8⟩
    have HC8 := Lib.hid hc8
    have B8 := Lib.hid (hc8.obj B7.out (fun h => h))
    have B9 := Lib.hid (hc8.obj (G7.out.obj H7.out (by omega)) (fun h => h))
    have c0 : w8.cell? ⟨b8, 0, none⟩ = some (.int .i64 1) := blkCell B8.out 0
    have c1 : w8.cell? ⟨b8, 1, none⟩ = some (.int .i64 x.size) := blkCell B8.out 1
    have c2 : w8.cell? ⟨b8, 2, none⟩ = some (.int .i64 128) := blkCell B8.out 2
    have c3 : w8.cell? ⟨b8, 3, none⟩ = some (.string (sumF [x])) := blkCell B8.out 3
    have c4 : w8.cell? ⟨b8, 4, none⟩ = some (.string RT) := blkCell B8.out 4
    have c5 : w8.cell? ⟨b8, 5, none⟩ = some (.slice A L.length cap) := blkCell B8.out 5
    have r0 : w8.cell? ⟨rb, 0, none⟩ = some (.int .i64 0) := blkCell B9.out 0
    have r1 : w8.cell? ⟨rb, 1, none⟩ = some (.int .i64 0) := blkCell B9.out 1
    have r2 : w8.cell? ⟨rb, 2, none⟩ = some (.int .i64 0) := blkCell B9.out 2
    have r3 : w8.cell? ⟨rb, 3, none⟩ = some (.string ⟨#[]⟩) := blkCell B9.out 3
    have r4 : w8.cell? ⟨rb, 4, none⟩ = some (.string ⟨#[]⟩) := blkCell B9.out 4
    have r5 : w8.cell? ⟨rb, 5, none⟩ = some (.slice none 0 0) := blkCell B9.out 5
    have e0 := blkFree B9.out 0
    have e1 := blkFree B9.out 1
    have e2 := blkFree B9.out 2
    have e3 := blkFree B9.out 3
    have e4 := blkFree B9.out 4
    have e5 := blkFree B9.out 5
    clear hc8 CC
    gi_wp2_with (refine ⟨trivial, ?_⟩; fail)
    obtain ⟨W9, hW9⟩ : ∃ W9, ((((((w8.setCell ⟨rb, 0, none⟩ (.int .i64 1)).setCell ⟨rb, 1, none⟩ (.int .i64 x.size)).setCell ⟨rb, 2, none⟩ (.int .i64 128)).setCell ⟨rb, 3, none⟩ (.string (sumF [x]))).setCell ⟨rb, 4, none⟩ (.string RT)).setCell ⟨rb, 5, none⟩ (.slice A L.length cap)) = W9 := ⟨_, rfl⟩
    have g9 : Chg (fun k => k = rb) w8 W9 := by
      rw [← hW9]
      exact ((((((Chg.refl (fun k => k = rb) w8).setCell (p := ⟨rb, 0, none⟩) (.inl rfl) _).setCell (p := ⟨rb, 1, none⟩) (.inl rfl) _).setCell (p := ⟨rb, 2, none⟩) (.inl rfl) _).setCell (p := ⟨rb, 3, none⟩) (.inl rfl) _).setCell (p := ⟨rb, 4, none⟩) (.inl rfl) _).setCell (p := ⟨rb, 5, none⟩) (.inl rfl) _
    have b9 : W9.heap[rb]? = some (.cells #[.int .i64 1, .int .i64 x.size, .int .i64 128, .string (sumF [x]), .string RT, .slice A L.length cap] 27 (0, 0)) := by
      rw [← hW9]
      exact blkSet (blkSet (blkSet (blkSet (blkSet (blkSet B9.out 0 (.int .i64 1)) 1 (.int .i64 x.size)) 2 (.int .i64 128)) 3 (.string (sumF [x]))) 4 (.string RT)) 5 (.slice A L.length cap)
    rw [hW9]
    clear hW9 c0 c1 c2 c3 c4 c5 r0 r1 r2 r3 r4 r5 e0 e1 e2 e3 e4 e5
    have hd9 : W9.heap[g + 3]? = some (.deferred (some [])) := by
      have := HKD.out
      rw [hD] at this
      exact g9.obj (HC8.out.obj (G7.out.obj this (by omega)) (fun h => h)) (by omega)
    have NR := SRow.ne H2.out H7.out (by decide)
    refine ⟨by simp, .inl ⟨_, _, rfl, run_takeDeferred hd9, ?_⟩⟩
    have hc2 := Chg.putO W9 (g + 3) (.deferred none)
    refine ⟨_, results_cell_rowB rfl _ _ rb _ _ _ _ rfl (hc2.obj b9 (by omega)) Tryz.underlying27 rfl (by kernel_rfl), A, cap, r, ?_, ?_, fun j hj => (H3.out j hj).1, ?_, ?_⟩
    · rw [hL, hRT]
      rfl
    · rw [hL]
      exact (((R7.out.chg HC8.out (fun _ _ h => h)).chg g9 (fun k hk e => NR (by rw [hk, e]))).chg hc2 (fun k hk e => (H3.out k hk).2.1 e))
    · exact (((H8.out.trans G7.out (fun k e => .inr (by rw [e]; exact hb8))).trans HC8.out (fun _ h => h.elim)).trans g9 (fun k e => .inr (by rw [e]; exact Nat.le_of_eq HRB.out))).trans hc2 (fun k e => .inr (by rw [e]; omega))
    · rw [hL, hRT]
      exact hchk
end Go.Proofs.YtnhdlclicjmmnaaGreat

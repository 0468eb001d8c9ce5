/- TopRejects: tiles: a path, and the tile of one. -/
import Derived.Test.YtmbipabiagdaaaaGreatDoorTjA
namespace Go.Proofs.YtmbipabiagdaaaaGreatDoor
open Go.RowKit Go.Lib
theorem strU_size (l : List UInt8) : (strU l).size = l.length := rfl
theorem cut_calls (w : World) (hg : Glob w) (s sep : ByteArray) (hs : s.size < 4294967281) :
    Calls Tryz.prog 17 #[.string s, .string sep] w fun e w' => ∃ a b ok, e = .returned (.tuple #[.string a, .string b, .bool ok]) ∧ a.size ≤ s.size ∧ b.size ≤ s.size ∧ Chg (fun _ => False) w w' := by
  obtain ⟨m, hm⟩ := hg.most
  refine (Tryz.strings_Cut s sep m w hs hm).mono fun e w' ⟨he, n, hw⟩ => ⟨_, _, _, he, ?_, ?_, by rw [hw]; exact (Chg.refl _ w).drewN n⟩
  · show ((Lib.cut s.data.toList sep.data.toList).1).length ≤ _
    have h : s.data.toList.length = s.size := Array.length_toList
    unfold Lib.cut
    split
    · rw [List.length_take]; omega
    · exact Nat.le_of_eq h
  · show ((Lib.cut s.data.toList sep.data.toList).2.1).length ≤ _
    have h : s.data.toList.length = s.size := Array.length_toList
    unfold Lib.cut
    split
    · rw [List.length_drop]; omega
    · exact Nat.zero_le _
theorem trimp_calls (w : World) (s p : ByteArray) :
    Calls Tryz.prog 20 #[.string s, .string p] w fun e w' => ∃ a, e = .returned (.string a) ∧ a.size ≤ s.size ∧ w' = w :=
  (Tryz.strings_TrimPrefix s p w).mono fun e w' ⟨he, hw⟩ => ⟨_, he, by
    show (Lib.trimPrefix s.data.toList p.data.toList).length ≤ _
    have h : s.data.toList.length = s.size := Array.length_toList
    unfold Lib.trimPrefix
    split
    · rw [List.length_drop]; omega
    · omega, hw⟩
theorem trims_calls (w : World) (s p : ByteArray) (hs : s.size ≤ 9223372036854775807) :
    Calls Tryz.prog 19 #[.string s, .string p] w fun e w' => ∃ a, e = .returned (.string a) ∧ a.size ≤ s.size ∧ w' = w :=
  (Tryz.strings_TrimSuffix s p w hs).mono fun e w' ⟨he, hw⟩ => ⟨_, he, by
    show (Lib.trimSuffix s.data.toList p.data.toList).length ≤ _
    have h : s.data.toList.length = s.size := Array.length_toList
    unfold Lib.trimSuffix
    split
    · rw [List.length_take]; omega
    · omega, hw⟩
def fitT (l i n : Int) : Bool := (((((decide (0 ≤ l) && decide (l ≤ 30)) && decide (0 ≤ i)) && decide (i ≤ 1099511627776)) && decide (1 ≤ n)) && decide (n ≤ 4))
theorem fit_calls (w : World) (l i n : Int) :
    Calls Tryz.prog 45 #[.agg #[.int .i64 l, .int .i64 i, .int .i64 n]] w fun e w' => e = .returned (.bool (fitT l i n)) ∧ Chg (fun _ => False) w w' := by
  unfold fitT
  cases d0 : decide (0 ≤ l)
  · go_enter Tryz.func45, Tryz.ntmps45
    go_wp2
    go_ret
    exact ⟨by simp, (Chg.refl _ w).alloc _⟩
  · cases d1 : decide (l ≤ 30)
    · go_enter Tryz.func45, Tryz.ntmps45
      go_wp2
      go_ret
      exact ⟨by simp, (Chg.refl _ w).alloc _⟩
    · cases d2 : decide (0 ≤ i)
      · go_enter Tryz.func45, Tryz.ntmps45
        go_wp2
        go_ret
        exact ⟨by simp, (Chg.refl _ w).alloc _⟩
      · cases d3 : decide (i ≤ 1099511627776)
        · go_enter Tryz.func45, Tryz.ntmps45
          go_wp2
          go_ret
          exact ⟨by simp, (Chg.refl _ w).alloc _⟩
        · cases d4 : decide (1 ≤ n)
          · go_enter Tryz.func45, Tryz.ntmps45
            go_wp2
            go_ret
            exact ⟨by simp, (Chg.refl _ w).alloc _⟩
          · cases d5 : decide (n ≤ 4)
            · go_enter Tryz.func45, Tryz.ntmps45
              go_wp2
              go_ret
              exact ⟨by simp, (Chg.refl _ w).alloc _⟩
            · go_enter Tryz.func45, Tryz.ntmps45
              go_wp2
              go_ret
              exact ⟨by simp, (Chg.refl _ w).alloc _⟩
def pathHead (l i : Int) : ByteArray := (⟨#[116, 105, 108, 101, 47]⟩ ++ itoaB l) ++ ⟨#[47]⟩ ++ itoaB i
def pathT (l i n : Int) : ByteArray := if fitT l i n = true then (if n < 4 then pathHead l i ++ (⟨#[46, 112, 47]⟩ ++ itoaB n) else pathHead l i) else ⟨#[]⟩
theorem fitT_range {l i n : Int} (h : fitT l i n = true) : 0 ≤ l ∧ l ≤ 30 ∧ 0 ≤ i ∧ i ≤ 1099511627776 ∧ 1 ≤ n ∧ n ≤ 4 := by
  simp only [fitT, Bool.and_eq_true, decide_eq_true_eq] at h
  omega
set_option maxRecDepth 100000 in
set_option maxHeartbeats 1000000 in
theorem Path_calls (w : World) (hg : Glob w) (l i n : Int) :
    Calls Tryz.prog 13 #[.agg #[.int .i64 l, .int .i64 i, .int .i64 n]] w fun e w' => e = .returned (.string (pathT l i n)) ∧ Chg (fun _ => False) w w' := by
  have C1 := Lib.hid (fun w => fit_calls w l i n)
  obtain ⟨f, hf⟩ : ∃ f, fitT l i n = f := ⟨_, rfl⟩
  cases f
  · rw [hf] at C1
    rw [show pathT l i n = ⟨#[]⟩ from if_neg (by rw [hf]; exact Bool.false_ne_true)]
    go_enter Tryz.func13, Tryz.ntmps13
    go_wp2_with (go_at_call 45; refine (C1.out _).mono ?_; rintro e w1 ⟨rfl, hc⟩; have G := Lib.hid (((Chg.refl (fun _ => False) w).alloc _).trans hc (fun _ h => h.elim)); clear hc)
    go_ret
    exact ⟨rfl, G.out⟩
  · obtain ⟨r0, r1, r2, r3, r4, r5⟩ := fitT_range hf
    rw [hf] at C1
    have C2' := Lib.hid (fun w (hg : Glob w) => itoa_calls w hg l (by omega) (by omega))
    have C3' := Lib.hid (fun w (hg : Glob w) => itoa_calls w hg i (by omega) (by omega))
    have C4' := Lib.hid (fun w (hg : Glob w) => itoa_calls w hg n (by omega) (by omega))
    have z0 := itoaB_size l (by omega) (by omega)
    have z1 := itoaB_size i (by omega) (by omega)
    have z2 := itoaB_size n (by omega) (by omega)
    rw [show pathT l i n = if n < 4 then ((⟨#[116, 105, 108, 101, 47]⟩ ++ itoaB l) ++ ⟨#[47]⟩ ++ itoaB i) ++ (⟨#[46, 112, 47]⟩ ++ itoaB n) else ((⟨#[116, 105, 108, 101, 47]⟩ ++ itoaB l) ++ ⟨#[47]⟩ ++ itoaB i) from if_pos hf]
    obtain ⟨sl, hsl⟩ : ∃ s, itoaB l = s := ⟨_, rfl⟩
    obtain ⟨si, hsi⟩ : ∃ s, itoaB i = s := ⟨_, rfl⟩
    obtain ⟨sn, hsn⟩ : ∃ s, itoaB n = s := ⟨_, rfl⟩
    rw [hsl] at C2' z0
    rw [hsi] at C3' z1
    rw [hsn] at C4' z2
    rw [hsl, hsi, hsn]
    clear hsl hsi hsn
    have HG := Lib.hid hg
    have K3 := Lib.hid (fun w' => run_string_add_sum (P := Tryz.prog) w' ⟨#[116, 105, 108, 101, 47]⟩ sl (by show 5 + sl.size ≤ _; omega))
    have K4 := Lib.hid (fun w' => run_string_add_sum (P := Tryz.prog) w' (⟨#[116, 105, 108, 101, 47]⟩ ++ sl) ⟨#[47]⟩ (by rw [ByteArray.size_append]; show 5 + sl.size + 1 ≤ _; omega))
    have K8 := Lib.hid (fun w' => run_string_add_sum (P := Tryz.prog) w' (⟨#[116, 105, 108, 101, 47]⟩ ++ sl ++ ⟨#[47]⟩) si (by rw [ByteArray.size_append, ByteArray.size_append]; show 5 + sl.size + 1 + si.size ≤ _; omega))
    clear hf hg
    by_cases hn : n < 4
    · rw [if_pos hn]
      go_enter Tryz.func13, Tryz.ntmps13
      go_wp2_with fail
      obtain ⟨b, hb⟩ : ∃ b, w.heap.size = b := ⟨_, rfl⟩
      obtain ⟨W0, hW⟩ : ∃ W0, w.alloc (.cells #[.int .i64 l, .int .i64 i, .int .i64 n] 51) = W0 := ⟨_, rfl⟩
      have hob : W0.heap[b]? = some (.cells #[.int .i64 l, .int .i64 i, .int .i64 n] 51 (0, 0)) := by rw [← hW, ← hb]; exact blkAlloc w _
      have HCH : Hid (Chg (fun _ => False) w W0) := Lib.hid (by rw [← hW]; exact (Chg.refl _ w).alloc _)
      have D := Lib.hid (Chg.refl (fun _ => False) W0)
      have CB := Lib.hid (fun (w' : World) (c : Chg (fun _ => False) W0 w') => (⟨blkCell (c.obj hob (fun h => h)) 0, blkCell (c.obj hob (fun h => h)) 1, blkCell (c.obj hob (fun h => h)) 2⟩ : w'.cell? ⟨b, 0, none⟩ = some (.int .i64 l) ∧ w'.cell? ⟨b, 1, none⟩ = some (.int .i64 i) ∧ w'.cell? ⟨b, 2, none⟩ = some (.int .i64 n)))
      have GL := Lib.hid (fun (w' : World) (c : Chg (fun _ => False) W0 w') => HG.out.chg (HCH.out.trans c (fun _ h => h.elim)))
      obtain ⟨c0, c1, c2⟩ := CB.out _ (Chg.refl _ _)
      simp only [hW, hb]
      clear hW hb hob
      go_wp2_with (go_at_call 45; refine (C1.out _).mono ?_; rintro e w1 ⟨rfl, hc⟩; have D := Lib.hid (D.out.trans hc (fun _ h => h.elim)); clear hc; obtain ⟨e0, e1, e2⟩ := CB.out _ D.out)
      go_region_held3 (fun w' => w'.cell? ⟨b, 0, none⟩ = some (.int .i64 l) ∧ w'.cell? ⟨b, 1, none⟩ = some (.int .i64 i) ∧ w'.cell? ⟨b, 2, none⟩ = some (.int .i64 n) ∧ (Op.stringOp .add ⟨#[116, 105, 108, 101, 47]⟩ sl).run Tryz.prog w' = .ok (.string (⟨#[116, 105, 108, 101, 47]⟩ ++ sl)) w' ∧ (Op.stringOp .add (⟨#[116, 105, 108, 101, 47]⟩ ++ sl) ⟨#[47]⟩).run Tryz.prog w' = .ok (.string (⟨#[116, 105, 108, 101, 47]⟩ ++ sl ++ ⟨#[47]⟩)) w' ∧ (Op.stringOp .add (⟨#[116, 105, 108, 101, 47]⟩ ++ sl ++ ⟨#[47]⟩) si).run Tryz.prog w' = .ok (.string (⟨#[116, 105, 108, 101, 47]⟩ ++ sl ++ ⟨#[47]⟩ ++ si)) w')
        (first | exact ⟨(CB.out _ D.out).1, (CB.out _ D.out).2.1, (CB.out _ D.out).2.2, K3.out _, K4.out _, K8.out _⟩ | exact ⟨(CB.out _ D.out.drew).1, (CB.out _ D.out.drew).2.1, (CB.out _ D.out.drew).2.2, K3.out _, K4.out _, K8.out _⟩) (first
          | (go_at_call 27; with_reducible refine (C2'.out _ (GL.out _ (by first | exact D.out | exact D.out.drew))).mono ?_; rintro e w5 ⟨rfl, hg⟩; have D := Lib.hid (Chg.trans (by first | exact D.out | exact D.out.drew) hg (fun _ h => h.elim)); clear hg)
          | (go_at_call 27; with_reducible refine (C3'.out _ (GL.out _ (by first | exact D.out | exact D.out.drew))).mono ?_; rintro e w5 ⟨rfl, hg⟩; have D := Lib.hid (Chg.trans (by first | exact D.out | exact D.out.drew) hg (fun _ h => h.elim)); clear hg)
          | fail "NOFIT")
      all_goals
        obtain ⟨f0, f1, f2⟩ := CB.out _ D.out
        go_wp2_with (go_at_call 27; refine (C4'.out _ (GL.out _ D.out)).mono ?_; rintro e w6 ⟨rfl, hg⟩; have D := Lib.hid (D.out.trans hg (fun _ h => h.elim)); clear hg)
        go_ret
        exact ⟨rfl, HCH.out.trans D.out (fun _ h => h.elim)⟩
    · rw [if_neg hn]
      have hn4 : 4 ≤ n := by omega
      have hn5 : decide (n < 4) = false := decide_eq_false hn
      go_enter Tryz.func13, Tryz.ntmps13
      go_wp2_with fail
      obtain ⟨b, hb⟩ : ∃ b, w.heap.size = b := ⟨_, rfl⟩
      obtain ⟨W0, hW⟩ : ∃ W0, w.alloc (.cells #[.int .i64 l, .int .i64 i, .int .i64 n] 51) = W0 := ⟨_, rfl⟩
      have hob : W0.heap[b]? = some (.cells #[.int .i64 l, .int .i64 i, .int .i64 n] 51 (0, 0)) := by rw [← hW, ← hb]; exact blkAlloc w _
      have HCH : Hid (Chg (fun _ => False) w W0) := Lib.hid (by rw [← hW]; exact (Chg.refl _ w).alloc _)
      have D := Lib.hid (Chg.refl (fun _ => False) W0)
      have CB := Lib.hid (fun (w' : World) (c : Chg (fun _ => False) W0 w') => (⟨blkCell (c.obj hob (fun h => h)) 0, blkCell (c.obj hob (fun h => h)) 1, blkCell (c.obj hob (fun h => h)) 2⟩ : w'.cell? ⟨b, 0, none⟩ = some (.int .i64 l) ∧ w'.cell? ⟨b, 1, none⟩ = some (.int .i64 i) ∧ w'.cell? ⟨b, 2, none⟩ = some (.int .i64 n)))
      have GL := Lib.hid (fun (w' : World) (c : Chg (fun _ => False) W0 w') => HG.out.chg (HCH.out.trans c (fun _ h => h.elim)))
      obtain ⟨c0, c1, c2⟩ := CB.out _ (Chg.refl _ _)
      simp only [hW, hb]
      clear hW hb hob
      go_wp2_with (go_at_call 45; refine (C1.out _).mono ?_; rintro e w1 ⟨rfl, hc⟩; have D := Lib.hid (D.out.trans hc (fun _ h => h.elim)); clear hc; obtain ⟨e0, e1, e2⟩ := CB.out _ D.out)
      go_region_held3 (fun w' => w'.cell? ⟨b, 0, none⟩ = some (.int .i64 l) ∧ w'.cell? ⟨b, 1, none⟩ = some (.int .i64 i) ∧ w'.cell? ⟨b, 2, none⟩ = some (.int .i64 n) ∧ (Op.stringOp .add ⟨#[116, 105, 108, 101, 47]⟩ sl).run Tryz.prog w' = .ok (.string (⟨#[116, 105, 108, 101, 47]⟩ ++ sl)) w' ∧ (Op.stringOp .add (⟨#[116, 105, 108, 101, 47]⟩ ++ sl) ⟨#[47]⟩).run Tryz.prog w' = .ok (.string (⟨#[116, 105, 108, 101, 47]⟩ ++ sl ++ ⟨#[47]⟩)) w' ∧ (Op.stringOp .add (⟨#[116, 105, 108, 101, 47]⟩ ++ sl ++ ⟨#[47]⟩) si).run Tryz.prog w' = .ok (.string (⟨#[116, 105, 108, 101, 47]⟩ ++ sl ++ ⟨#[47]⟩ ++ si)) w')
        (first | exact ⟨(CB.out _ D.out).1, (CB.out _ D.out).2.1, (CB.out _ D.out).2.2, K3.out _, K4.out _, K8.out _⟩ | exact ⟨(CB.out _ D.out.drew).1, (CB.out _ D.out.drew).2.1, (CB.out _ D.out.drew).2.2, K3.out _, K4.out _, K8.out _⟩) (first
          | (go_at_call 27; with_reducible refine (C2'.out _ (GL.out _ (by first | exact D.out | exact D.out.drew))).mono ?_; rintro e w5 ⟨rfl, hg⟩; have D := Lib.hid (Chg.trans (by first | exact D.out | exact D.out.drew) hg (fun _ h => h.elim)); clear hg)
          | (go_at_call 27; with_reducible refine (C3'.out _ (GL.out _ (by first | exact D.out | exact D.out.drew))).mono ?_; rintro e w5 ⟨rfl, hg⟩; have D := Lib.hid (Chg.trans (by first | exact D.out | exact D.out.drew) hg (fun _ h => h.elim)); clear hg)
          | fail "NOFIT")
      all_goals
        obtain ⟨f0, f1, f2⟩ := CB.out _ D.out
        go_wp2_with fail
        go_ret
        exact ⟨rfl, HCH.out.trans D.out (fun _ h => h.elim)⟩
end Go.Proofs.YtmbipabiagdaaaaGreatDoor

/- TopRejects: note.Text. -/
import Derived.Test.YtmbipabiagdaaaaGreatDoorTjD
namespace Go.Proofs.YtmbipabiagdaaaaGreatDoor
open Go.RowKit Go.Lib Go.Shelf
def joinB (xs : List ByteArray) (sep : ByteArray) : ByteArray := strU (Lib.join (xs.map (·.data.toList)) sep.data.toList)
theorem join_calls (w : World) (bk c : Nat) (xs : List ByteArray) (sep : ByteArray) (hb : w.heap[bk]? = some (.cells (xs.map Value.string).toArray 9 (0, 0))) (hN : xs.length ≤ 1000000) (hc : xs.length ≤ c) (hl : (joinB xs sep).size ≤ 140737488355328) :
    Calls Tryz.prog 26 #[.slice (some ⟨bk, 0, none⟩) xs.length c, .string sep] w fun e w' => e = .returned (.string (joinB xs sep)) ∧ Chg (fun _ => False) w w' :=
  (Tryz.strings_Join bk 0 c xs sep w (fun j x hx => by
    rw [Nat.zero_add, blkCell hb]
    simp [hx]) (blkLt hb) (by omega) hc hl).mono fun e w' ⟨he, hw⟩ => ⟨he, Chg.of_below hw _⟩
def headB : ByteArray := ⟨#[111, 115, 116, 108, 101, 114, 32, 99, 104, 101, 99, 107, 112, 111, 105, 110, 116]⟩
def goodT (o : ByteArray) (n : Int) (r : ByteArray) : Prop := originB o = true ∧ 0 ≤ n ∧ n ≤ 1024 ∧ r.size = 32
instance (o : ByteArray) (n : Int) (r : ByteArray) : Decidable (goodT o n r) := by unfold goodT; infer_instance
def textJ (o : ByteArray) (n : Int) (r : ByteArray) : ByteArray := joinB [⟨#[111, 115, 116, 108, 101, 114, 32, 99, 104, 101, 99, 107, 112, 111, 105, 110, 116]⟩, o, itoaB n, hexF r, ⟨#[]⟩] ⟨#[10]⟩
def textT (o : ByteArray) (n : Int) (r : ByteArray) : ByteArray := if goodT o n r then textJ o n r else ⟨#[]⟩
def textE (o : ByteArray) (n : Int) (r : ByteArray) : Int := if goodT o n r then 0 else 1
theorem join5 (a b c d e : ByteArray) : (joinB [a, b, c, d, e] ⟨#[10]⟩).size = a.size + b.size + c.size + d.size + e.size + 4 := by
  have hs : ∀ s : ByteArray, s.data.toList.length = s.size := fun s => Array.length_toList
  show (Lib.join ([a, b, c, d, e].map (·.data.toList)) [10]).length = _
  simp [Lib.join, List.intercalate, List.intersperse, hs]
  omega
set_option maxRecDepth 100000 in
set_option maxHeartbeats 2000000 in
theorem nText_good (w : World) (hg : Glob w) (o : ByteArray) (n : Int) (r : ByteArray) (ho : o.size ≤ 1048576) (h : goodT o n r) :
    Calls Tryz.prog 7 #[.agg #[.string o, .int .i64 n, .string r]] w fun e w' => e = .returned (.tuple #[.string (textJ o n r), .int .i64 0]) ∧ Chg (fun _ => False) w w' := by
  obtain ⟨h1, h2, h3, h4⟩ := h
  have C1 := Lib.hid (fun w => origin_calls w o)
  rw [h1] at C1
  have C2 := Lib.hid (fun w hg => itoa_calls w hg n (by omega) (by omega))
  have C3 := Lib.hid (fun w => Hex_calls w r (by omega))
  have z2 := itoaB_size n (by omega) (by omega)
  have z3 := hexF_size r
  have hj := join5 ⟨#[111, 115, 116, 108, 101, 114, 32, 99, 104, 101, 99, 107, 112, 111, 105, 110, 116]⟩ o (itoaB n) (hexF r) ⟨#[]⟩
  unfold textJ
  obtain ⟨sn, hsn⟩ : ∃ s, itoaB n = s := ⟨_, rfl⟩
  obtain ⟨sr, hsr⟩ : ∃ s, hexF r = s := ⟨_, rfl⟩
  rw [hsn] at C2 z2 hj ⊢
  rw [hsr] at C3 z3 hj ⊢
  obtain ⟨J, hJ⟩ : ∃ J, joinB [⟨#[111, 115, 116, 108, 101, 114, 32, 99, 104, 101, 99, 107, 112, 111, 105, 110, 116]⟩, o, sn, sr, ⟨#[]⟩] ⟨#[10]⟩ = J := ⟨_, rfl⟩
  have C4 := Lib.hid (fun w bk (hb : w.heap[bk]? = some (.cells #[.string ⟨#[111, 115, 116, 108, 101, 114, 32, 99, 104, 101, 99, 107, 112, 111, 105, 110, 116]⟩, .string o, .string sn, .string sr, .string ⟨#[]⟩] 9 (0, 0))) => join_calls w bk 5 [⟨#[111, 115, 116, 108, 101, 114, 32, 99, 104, 101, 99, 107, 112, 111, 105, 110, 116]⟩, o, sn, sr, ⟨#[]⟩] ⟨#[10]⟩ hb (show 5 ≤ 1000000 by decide) (Nat.le_refl _) (by rw [hj, z3, h4]; show 17 + o.size + sn.size + 2 * 32 + 0 + 4 ≤ _; omega))
  rw [hJ] at C4 ⊢
  have HG := Lib.hid hg
  have h5 : (r.size : Int) = 32 := by omega
  clear hg hJ hj h1 hsn hsr z2 z3
  go_enter Tryz.func7, Tryz.ntmps7
  go_wp2_with fail
  obtain ⟨b, hb⟩ : ∃ b, w.heap.size = b := ⟨_, rfl⟩
  obtain ⟨W0, hW⟩ : ∃ W0, w.alloc (.cells #[.string o, .int .i64 n, .string r] 23) = W0 := ⟨_, rfl⟩
  have hob : W0.heap[b]? = some (.cells #[.string o, .int .i64 n, .string r] 23 (0, 0)) := by rw [← hW, ← hb]; exact blkAlloc w _
  have HCH : Hid (Chg (fun _ => False) w W0) := Lib.hid (by rw [← hW]; exact (Chg.refl _ w).alloc _)
  have D := Lib.hid (Chg.refl (fun _ => False) W0)
  have CB := Lib.hid (fun (w' : World) (c : Chg (fun _ => False) W0 w') => (⟨blkCell (c.obj hob (fun h => h)) 0, blkCell (c.obj hob (fun h => h)) 1, blkCell (c.obj hob (fun h => h)) 2⟩ : w'.cell? ⟨b, 0, none⟩ = some (.string o) ∧ w'.cell? ⟨b, 1, none⟩ = some (.int .i64 n) ∧ w'.cell? ⟨b, 2, none⟩ = some (.string r)))
  have GL := Lib.hid (fun (w' : World) (c : Chg (fun _ => False) W0 w') => HG.out.chg (HCH.out.trans c (fun _ h => h.elim)))
  obtain ⟨c0, c1, c2⟩ := CB.out _ (Chg.refl _ _)
  simp only [hW]
  simp only [hb]
  clear hW hb hob
  go_wp2_with (go_at_call 25; refine (C1.out _).mono ?_; rintro e w1 ⟨rfl, hc⟩; have D := Lib.hid (D.out.trans hc (fun _ h => h.elim)); clear hc; obtain ⟨e0, e1, e2⟩ := CB.out _ D.out)
  go_region_held3 (fun w' => w'.cell? ⟨b, 0, none⟩ = some (.string o) ∧ w'.cell? ⟨b, 1, none⟩ = some (.int .i64 n) ∧ w'.cell? ⟨b, 2, none⟩ = some (.string r)) (first | exact CB.out _ D.out | exact CB.out _ D.out.drew | exact CB.out _ (D.out.alloc _))
    (first
      | (go_at_call 27; refine (C2.out _ (GL.out _ (by first | exact D.out | exact D.out.drew))).mono ?_; rintro e w5 ⟨rfl, hg⟩; have D := Lib.hid (Chg.trans (by first | exact D.out | exact D.out.drew) hg (fun _ h => h.elim)); clear hg)
      | (go_at_call 23; refine (C3.out _).mono ?_; rintro e w5 ⟨rfl, hg⟩; have D := Lib.hid (Chg.trans (by first | exact D.out | exact D.out.drew) hg (fun _ h => h.elim)); clear hg)
      | (go_at_call 26; refine (C4.out _ _ (blkAlloc _ _)).mono ?_; rintro e w5 ⟨rfl, hg⟩; have D := Lib.hid (Chg.trans (by first | exact D.out.alloc _ | exact D.out.drew.alloc _) hg (fun _ h => h.elim)); clear hg)
      | fail "NOFIT")
  all_goals
    go_wp2_with fail
    go_ret2
    exact ⟨rfl, HCH.out.trans D.out (fun _ h => h.elim)⟩
set_option maxRecDepth 100000 in
theorem nText_bad (w : World) (o : ByteArray) (n : Int) (r : ByteArray) (h : ¬ goodT o n r) :
    Calls Tryz.prog 7 #[.agg #[.string o, .int .i64 n, .string r]] w fun e w' => e = .returned (.tuple #[.string ⟨#[]⟩, .int .i64 1]) ∧ Chg (fun _ => False) w w' := by
  have C1 := Lib.hid (fun w => origin_calls w o)
  obtain ⟨q, hq⟩ : ∃ q, originB o = q := ⟨_, rfl⟩
  have h' : ¬ (q = true ∧ 0 ≤ n ∧ n ≤ 1024 ∧ r.size = 32) := by rw [← hq]; exact h
  rw [hq] at C1
  clear hq h
  go_enter Tryz.func7, Tryz.ntmps7
  go_wp2_with fail
  obtain ⟨b, hb⟩ : ∃ b, w.heap.size = b := ⟨_, rfl⟩
  obtain ⟨W0, hW⟩ : ∃ W0, w.alloc (.cells #[.string o, .int .i64 n, .string r] 23) = W0 := ⟨_, rfl⟩
  have hob : W0.heap[b]? = some (.cells #[.string o, .int .i64 n, .string r] 23 (0, 0)) := by rw [← hW, ← hb]; exact blkAlloc w _
  have HCH : Hid (Chg (fun _ => False) w W0) := Lib.hid (by rw [← hW]; exact (Chg.refl _ w).alloc _)
  have CB := Lib.hid (fun (w' : World) (c : Chg (fun _ => False) W0 w') => (⟨blkCell (c.obj hob (fun h => h)) 0, blkCell (c.obj hob (fun h => h)) 1, blkCell (c.obj hob (fun h => h)) 2⟩ : w'.cell? ⟨b, 0, none⟩ = some (.string o) ∧ w'.cell? ⟨b, 1, none⟩ = some (.int .i64 n) ∧ w'.cell? ⟨b, 2, none⟩ = some (.string r)))
  obtain ⟨c0, c1, c2⟩ := CB.out _ (Chg.refl _ _)
  simp only [hW]
  simp only [hb]
  clear hW hb hob
  refine (C1.out _).mono ?_
  rintro e w1 ⟨rfl, hc⟩
  have D := Lib.hid hc
  obtain ⟨e0, e1, e2⟩ := CB.out _ D.out
  clear hc
  cases q
  · go_wp2_with fail
    go_ret2
    exact ⟨rfl, HCH.out.trans D.out (fun _ h => h.elim)⟩
  · by_cases n0 : n < 0
    · have d0 : decide (n < 0) = true := decide_eq_true n0
      go_wp2_with fail
      go_ret2
      exact ⟨rfl, HCH.out.trans D.out (fun _ h => h.elim)⟩
    · have d0 : decide (n < 0) = false := decide_eq_false n0
      by_cases n1 : 1024 < n
      · have d1 : decide (1024 < n) = true := decide_eq_true n1
        go_wp2_with fail
        go_ret2
        exact ⟨rfl, HCH.out.trans D.out (fun _ h => h.elim)⟩
      · have d1 : decide (1024 < n) = false := decide_eq_false n1
        have hz : r.size ≠ 32 := fun e => h' ⟨rfl, by omega, by omega, e⟩
        have d2 : ((r.size : Int) == 32) = false := by simp; omega
        go_wp2_with fail
        go_ret2
        exact ⟨rfl, HCH.out.trans D.out (fun _ h => h.elim)⟩
theorem nText_calls (w : World) (hg : Glob w) (o : ByteArray) (n : Int) (r : ByteArray) (ho : o.size ≤ 1048576) :
    Calls Tryz.prog 7 #[.agg #[.string o, .int .i64 n, .string r]] w fun e w' => e = .returned (.tuple #[.string (textT o n r), .int .i64 (textE o n r)]) ∧ Chg (fun _ => False) w w' := by
  by_cases h : goodT o n r
  · rw [show textT o n r = textJ o n r from if_pos h, show textE o n r = 0 from if_pos h]
    exact nText_good w hg o n r ho h
  · rw [show textT o n r = ⟨#[]⟩ from if_neg h, show textE o n r = 1 from if_neg h]
    exact nText_bad w o n r h
end Go.Proofs.YtmbipabiagdaaaaGreatDoor

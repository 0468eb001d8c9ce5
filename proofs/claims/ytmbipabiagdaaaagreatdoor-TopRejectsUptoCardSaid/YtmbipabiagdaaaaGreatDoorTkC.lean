/- TopRejects: meta.goodRoot. -/
import Derived.Test.YtmbipabiagdaaaaGreatDoorTkB
namespace Go.Proofs.YtmbipabiagdaaaaGreatDoor
open Go.RowKit Go.Lib Go.Shelf
/-- A set: where its names lie, the names, how many are needed. -/
structure SetV where
  A : Option Addr
  c : Nat
  r : Option Nat
  l : List ByteArray
  n : Int
def SetV.sl (s : SetV) : Value := .slice s.A s.l.length s.c
def SetOk (w : World) (s : SetV) : Prop := TRow w (.slice s.A s.l.length s.c) s.r s.l
def DAt (w : World) (b : Nat) (cs : Array Value) : Prop := w.heap[b]? = some (.cells cs 46 (0, 0))
def SetsIn (cs : Array Value) (ss : List SetV) : Prop := ss.length = 5 ∧ ∀ k s, ss[k]? = some s → cs[3 + 2 * k]? = some (.slice s.A s.l.length s.c) ∧ cs[3 + 2 * k + 1]? = some (.int .i64 s.n)
def badSet (s : SetV) : Bool := !(qchk s.l s.n == 0)
theorem badSet_calls (w : World) (b p : Nat) (s : SetV) (h0 : w.cell? ⟨b, p, none⟩ = some (.slice s.A s.l.length s.c)) (h1 : w.cell? ⟨b, p + 1, none⟩ = some (.int .i64 s.n)) (hs : SetOk w s) :
    Calls Tryz.prog 118 #[.pointer (some ⟨b, p, none⟩)] w fun e w' => e = .returned (.bool (badSet s)) ∧ Chg (fun _ => False) w w' := by
  obtain ⟨A, c, r, l, n⟩ := s
  have C := Lib.hid (qCheck_calls w A c n r l hs)
  have hB : badSet ⟨A, c, r, l, n⟩ = !(qchk l n == 0) := rfl
  rw [hB]
  obtain ⟨K, hK⟩ : ∃ K, qchk l n = K := ⟨_, rfl⟩
  rw [hK] at C ⊢
  simp only at h0 h1
  clear hs hB hK
  go_enter Tryz.func118, Tryz.ntmps118
  go_wp2_with (go_at_call 119; refine (C.out).mono ?_; rintro e w1 ⟨rfl, hg⟩; have G := Lib.hid hg; clear hg)
  go_ret
  exact ⟨rfl, G.out⟩
theorem setsB_get (b k : Nat) (hk : k < 5) : (setsB b)[k]? = some (.pointer (some ⟨b, 3 + 2 * k, none⟩)) := by
  match k, hk with
  | 0, _ => rfl
  | 1, _ => rfl
  | 2, _ => rfl
  | 3, _ => rfl
  | 4, _ => rfl
set_option maxRecDepth 100000 in
set_option maxHeartbeats 1000000 in
theorem idxP_calls (w : World) (g b : Nat) (cs : Array Value) (ss : List SetV) (hg : w.heap[g]? = some (.cells (setsB b) 142 (0, 0))) (hd : DAt w b cs) (hi : SetsIn cs ss) (hs : ∀ s ∈ ss, SetOk w s) :
    Calls Tryz.prog 141 #[.slice (some ⟨g, 0, none⟩) 5 5, .func (.func 118) #[] #[]] w fun e w' => ∃ i : Int, e = .returned (.int .i64 i) ∧ decide (0 ≤ i) = ss.any badSet ∧ Chg (fun _ => False) w w' := by
  have HG := Lib.hid hg
  have HDD := Lib.hid hd
  have HI := Lib.hid hi
  have HS := Lib.hid hs
  clear hg hd hi hs
  go_enter Tryz.func141, Tryz.ntmps141
  go_wp2_with fail
  go_loopw [8] (fun v wx => ∃ k : Nat, k ≤ 5 ∧ v = .int .i64 k ∧ HD ((ss.take k).any badSet = false) ∧ HD (Chg (fun _ => False) w wx)) (fun v _ => 5 - (intOf v).toNat)
  case atStart => exact ⟨0, Nat.zero_le _, rfl, ⟨rfl⟩, ⟨Chg.refl _ _⟩⟩
  case round =>
    obtain ⟨k, hk, rfl, HA, HC⟩ := hrel
    obtain ⟨w2, rfl⟩ : ∃ w2, w2 = wr := ⟨_, rfl⟩
    by_cases hlt : k < 5
    · obtain ⟨s, hx⟩ : ∃ s, ss[k]? = some s := ⟨_, List.getElem?_eq_getElem (by rw [HI.out.1]; exact hlt)⟩
      obtain ⟨i0, i1⟩ := HI.out.2 k s hx
      have hgc := HC.out.obj HG.out (fun h => h)
      have hdc := HC.out.obj HDD.out (fun h => h)
      have e0 : w2.cell? ⟨g, k, none⟩ = some (.pointer (some ⟨b, 3 + 2 * k, none⟩)) := by rw [blkCell hgc]; exact setsB_get b k hlt
      have e1 : w2.cell? ⟨b, 3 + 2 * k, none⟩ = some (.slice s.A s.l.length s.c) := by rw [blkCell hdc]; exact i0
      have e2 : w2.cell? ⟨b, 3 + 2 * k + 1, none⟩ = some (.int .i64 s.n) := by rw [blkCell hdc]; exact i1
      have C := Lib.hid (badSet_calls w2 b (3 + 2 * k) s e1 e2 (SRow.chg (HS.out s (List.mem_iff_getElem?.2 ⟨k, hx⟩)) HC.out (fun _ _ h => h)))
      obtain ⟨p, hp⟩ : ∃ p, 3 + 2 * k = p := ⟨_, rfl⟩
      have HST := Lib.hid (any_take badSet ss k _ hx)
      have HPP := Lib.hid (any_part badSet ss k _ hx)
      obtain ⟨q, hq⟩ : ∃ q, badSet s = q := ⟨_, rfl⟩
      rw [hq] at C HST HPP
      rw [hp] at C e0
      have q0 : (0 : Int) ≤ (k : Int) := by omega
      have q1 : (k : Int) < 5 := by omega
      clear hq hx hgc hdc e1 e2 i0 i1 hp
      cases q
      · go_wp2_with (go_at_call 118; refine (C.out).mono ?_; rintro e w3 ⟨rfl, hc⟩; have G := Lib.hid (HC.out.trans hc (fun _ h => h.elim)); clear hc)
        exact ⟨⟨k + 1, by omega, by go_num, ⟨by rw [HST.out, HA.out]; rfl⟩, ⟨G.out⟩⟩, by simp [intOf]; omega⟩
      · go_wp2_with (go_at_call 118; refine (C.out).mono ?_; rintro e w3 ⟨rfl, hc⟩; have G := Lib.hid (HC.out.trans hc (fun _ h => h.elim)); clear hc)
        go_ret
        have hp := HPP.out (by trivial)
        exact ⟨_, rfl, by rw [hp]; simp, G.out⟩
    · obtain rfl : k = 5 := by omega
      go_wp2_with fail
      go_ret
      have ha := HA.out
      rw [List.take_of_length_le (Nat.le_of_eq HI.out.1)] at ha
      exact ⟨_, rfl, by rw [ha]; rfl, HC.out⟩
theorem conP_calls (w : World) (g b : Nat) (cs : Array Value) (ss : List SetV) (hg : w.heap[g]? = some (.cells (setsB b) 142 (0, 0))) (hd : DAt w b cs) (hi : SetsIn cs ss) (hs : ∀ s ∈ ss, SetOk w s) :
    Calls Tryz.prog 116 #[.slice (some ⟨g, 0, none⟩) 5 5, .func (.func 118) #[] #[]] w fun e w' => e = .returned (.bool (ss.any badSet)) ∧ Chg (fun _ => False) w w' := by
  have C := Lib.hid (idxP_calls w g b cs ss hg hd hi hs)
  clear hg hd hi hs
  go_enter Tryz.func116, Tryz.ntmps116
  go_wp2_with (go_at_call 141; refine (C.out).mono ?_; rintro e w1 ⟨i, rfl, hi, hc⟩; have HI := Lib.hid hi; have G := Lib.hid hc; clear hi hc)
  go_ret
  exact ⟨by rw [← HI.out]; rfl, G.out⟩
def goodR (o g : ByteArray) (ss : List SetV) : Bool := textE o 0 g == 0 && !(ss.any badSet)
set_option maxRecDepth 100000 in
set_option maxHeartbeats 1000000 in
theorem goodRoot_calls (w : World) (hgl : Glob w) (b : Nat) (cs : Array Value) (ss : List SetV) (o g : ByteArray) (hd : DAt w b cs) (hi : SetsIn cs ss) (hs : ∀ s ∈ ss, SetOk w s) (hg : cs[13]? = some (.string g)) (ho : cs[14]? = some (.string o)) (hz : o.size ≤ 1048576) :
    Calls Tryz.prog 73 #[.pointer (some ⟨b, 0, none⟩)] w fun e w' => e = .returned (.bool (goodR o g ss)) ∧ Chg (fun _ => False) w w' := by
  have CT := Lib.hid (fun w hg => nText_calls w hg o 0 g hz)
  have CS := Lib.hid (fun w => sets_calls w b)
  have CP := Lib.hid (fun w g hg hd hs => conP_calls w g b cs ss hg hd hi hs)
  unfold goodR
  obtain ⟨X, hX⟩ : ∃ X, textT o 0 g = X := ⟨_, rfl⟩
  obtain ⟨E, hE⟩ : ∃ E, textE o 0 g = E := ⟨_, rfl⟩
  obtain ⟨q, hq⟩ : ∃ q, ss.any badSet = q := ⟨_, rfl⟩
  rw [hX, hE] at CT
  rw [hq] at CP
  rw [hE, hq]
  have HGL := Lib.hid hgl
  have HDD := Lib.hid hd
  have HS := Lib.hid hs
  have D := Lib.hid (Chg.refl (fun _ => False) w)
  have CB := Lib.hid (fun (w' : World) (c : Chg (fun _ => False) w w') => (⟨(blkCell (c.obj hd (fun h => h)) 13).trans hg, (blkCell (c.obj hd (fun h => h)) 14).trans ho⟩ : w'.cell? ⟨b, 13, none⟩ = some (.string g) ∧ w'.cell? ⟨b, 14, none⟩ = some (.string o)))
  clear hgl hd hi hs hg ho hX hE hq
  by_cases he : E = 0
  · subst he
    go_enter Tryz.func73, Tryz.ntmps73
    go_wp2_with fail
    go_region_held3 (fun w' => w'.cell? ⟨b, 13, none⟩ = some (.string g) ∧ w'.cell? ⟨b, 14, none⟩ = some (.string o)) (first | exact CB.out _ D.out | exact CB.out _ D.out.drew)
      (first
        | (go_at_call 7; refine (CT.out _ (HGL.out.chg (by first | exact D.out | exact D.out.drew))).mono ?_; rintro e w5 ⟨rfl, hg⟩; have D := Lib.hid (Chg.trans (by first | exact D.out | exact D.out.drew) hg (fun _ h => h.elim)); clear hg)
        | fail "NOFIT")
    all_goals
      go_wp2_with (first
        | (go_at_call 117; refine (CS.out _).mono ?_; rintro e w6 ⟨gg, rfl, hb, _, hc⟩; have HB := Lib.hid hb; have D := Lib.hid (D.out.trans hc (fun _ h => h.elim)); clear hb hc)
        | (go_at_call 116; refine (CP.out _ _ HB.out (D.out.obj HDD.out (fun h => h)) (fun s hs => SRow.chg (HS.out s hs) D.out (fun _ _ h => h))).mono ?_; rintro e w7 ⟨rfl, hc⟩; have D := Lib.hid (D.out.trans hc (fun _ h => h.elim)); clear hc))
      go_ret
      exact ⟨rfl, D.out⟩
  · have he1 : (E == 0) = false := by simpa using he
    clear he
    go_enter Tryz.func73, Tryz.ntmps73
    go_wp2_with fail
    go_region_held3 (fun w' => w'.cell? ⟨b, 13, none⟩ = some (.string g) ∧ w'.cell? ⟨b, 14, none⟩ = some (.string o)) (first | exact CB.out _ D.out | exact CB.out _ D.out.drew)
      (first
        | (go_at_call 7; refine (CT.out _ (HGL.out.chg (by first | exact D.out | exact D.out.drew))).mono ?_; rintro e w5 ⟨rfl, hg⟩; have D := Lib.hid (Chg.trans (by first | exact D.out | exact D.out.drew) hg (fun _ h => h.elim)); clear hg)
        | fail "NOFIT")
    all_goals
      go_wp2_with fail
      go_ret
      exact ⟨by rw [he1]; rfl, D.out⟩
end Go.Proofs.YtmbipabiagdaaaaGreatDoor

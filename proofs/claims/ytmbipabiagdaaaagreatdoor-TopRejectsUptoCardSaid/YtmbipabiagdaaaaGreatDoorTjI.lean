/- TopRejects: note.Format. -/
import Derived.Test.YtmbipabiagdaaaaGreatDoorTjH
import Derived.Test.YtmbipabiagdaaaaGreatDoorTjO
namespace Go.Proofs.YtmbipabiagdaaaaGreatDoor
open Go.RowKit Go.Lib Go.Shelf
/-- A signature's line. -/
def lineB (s : Sg) : ByteArray := ⟨#[115, 105, 103, 32]⟩ ++ hexF s.i ++ ⟨#[32]⟩ ++ hexF s.t ++ ⟨#[10]⟩
def linesL (l : List Sg) : List UInt8 := l.flatMap fun s => (lineB s).data.toList
def formL (t : ByteArray) (l : List Sg) : List UInt8 := (t ++ ⟨#[10]⟩).data.toList ++ linesL l
def formT (t : ByteArray) (l : List Sg) : ByteArray := if goodN t l = true then strOf (formL t l) else ⟨#[]⟩
def formE (t : ByteArray) (l : List Sg) : Int := if goodN t l = true then 0 else 1
theorem goodN_small {t : ByteArray} {l : List Sg} (h : goodN t l = true) : l.length ≤ 16 ∧ ∀ s ∈ l, s.i.size = 32 ∧ s.t.size ≤ 1024 := by
  unfold goodN at h
  simp only [Bool.and_eq_true, Bool.not_eq_true', Bool.or_eq_false_iff, decide_eq_false_iff_not] at h
  obtain ⟨⟨⟨⟨h1, _⟩, _⟩, _⟩, h2⟩ := h
  refine ⟨by omega, fun s hs => ?_⟩
  have h3 := List.any_eq_false.1 h2 s hs
  simp only [badS, Bool.or_eq_true, Bool.not_eq_true', beq_eq_false_iff_ne, decide_eq_true_eq, not_or, Decidable.not_not] at h3
  omega
theorem lineB_size (s : Sg) : (lineB s).size = 2 * s.i.size + 2 * s.t.size + 6 := by
  simp only [lineB, ByteArray.size_append, hexF_size]
  show 4 + 2 * s.i.size + 1 + 2 * s.t.size + 1 = _
  omega
theorem linesL_take (l : List Sg) (k : Nat) (x : Sg) (h : l[k]? = some x) : linesL (l.take (k + 1)) = linesL (l.take k) ++ (lineB x).data.toList := by
  obtain ⟨hk, hx⟩ := List.getElem?_eq_some_iff.1 h
  rw [List.take_succ_eq_append_getElem hk, linesL, List.flatMap_append, hx]
  simp [linesL]
set_option maxRecDepth 100000 in
theorem Format_bad (w : World) (hg : Glob w) (t : ByteArray) (ht : t.size ≤ 4000000) (A : Option Addr) (c : Nat) (r : Option Nat) (l : List Sg) (h : SgRow w (.slice A l.length c) r l) (hb : goodN t l = false) :
    Calls Tryz.prog 6 #[.agg #[.string t, .slice A l.length c]] w fun e w' => e = .returned (.tuple #[.string ⟨#[]⟩, .int .i64 1]) ∧ Chg (fun _ => False) w w' := by
  have C := Lib.hid (good_calls (w.alloc (.cells #[.string t, .slice A l.length c] 29)) (hg.chg ((Chg.refl _ w).alloc _)) t ht A c r l (SRow.alloc h _))
  rw [hb] at C
  clear hg h hb
  go_enter Tryz.func6, Tryz.ntmps6
  go_wp2_with (go_at_call 21; refine (C.out).mono ?_; rintro e w1 ⟨rfl, hc⟩; have G := Lib.hid (((Chg.refl (fun _ => False) w).alloc _).trans hc (fun _ h => h.elim)); clear hc)
  go_ret2
  exact ⟨rfl, G.out⟩
set_option maxRecDepth 100000 in
set_option maxHeartbeats 4000000 in
theorem Format_good (w : World) (hg : Glob w) (t : ByteArray) (ht : t.size ≤ 4000000) (A : Option Addr) (c : Nat) (r : Option Nat) (l : List Sg) (h : SgRow w (.slice A l.length c) r l) (hb : goodN t l = true) :
    Calls Tryz.prog 6 #[.agg #[.string t, .slice A l.length c]] w fun e w' => e = .returned (.tuple #[.string (strOf (formL t l)), .int .i64 0]) ∧ Chg (fun _ => False) w w' := by
  obtain ⟨hl16, hsm⟩ := goodN_small hb
  have C := Lib.hid (good_calls (w.alloc (.cells #[.string t, .slice A l.length c] 29)) (hg.chg ((Chg.refl _ w).alloc _)) t ht A c r l (SRow.alloc h _))
  rw [hb] at C
  have HR := Lib.hid h
  have HSM := Lib.hid hsm
  clear hg h hb hsm
  go_enter Tryz.func6, Tryz.ntmps6
  go_wp2_with fail
  refine (C.out).mono ?_
  rintro e w1 ⟨rfl, hc⟩
  obtain ⟨b0, hb0⟩ : ∃ b0, w.heap.size = b0 := ⟨_, rfl⟩
  have h0 := hc.obj (blkAlloc w (.cells #[.string t, .slice A l.length c] 29)) (fun h => h)
  rw [hb0] at h0
  have HN := Lib.hid h0
  have HG1 := Lib.hid (((Chg.refl (fun _ => False) w).alloc (.cells #[.string t, .slice A l.length c] 29)).trans hc (fun _ h => h.elim))
  simp only [hb0]
  have hbb : b0 < w1.heap.size := blkLt h0
  clear hc h0 hb0 C
  have HBD : Hid (Bd w1 (w1.alloc (.cells #[.pointer none, .slice none 0 0] 75)) w1.heap.size []) := Lib.hid (Bd.new w1)
  have n0 : (w1.alloc (.cells #[.pointer none, .slice none 0 0] 75)).cell? ⟨b0, 0, none⟩ = some (.string t) := blkCell (blkOld HN.out _) 0
  have n1 : (w1.alloc (.cells #[.pointer none, .slice none 0 0] 75)).cell? ⟨b0, 1, none⟩ = some (.slice A l.length c) := blkCell (blkOld HN.out _) 1
  have hts : (t.size : Int) + 1 ≤ 9223372036854775807 := by omega
  go_wp2_with fail
  have hsz1 : (t ++ (⟨#[10]⟩ : ByteArray)).size = t.size + 1 := by rw [ByteArray.size_append]; rfl
  have hbnd : ([] : List UInt8).length + (t ++ (⟨#[10]⟩ : ByteArray)).size ≤ 140737488355328 := by rw [hsz1, List.length_nil]; omega
  have CW := write3 w1 _ w1.heap.size [] (t ++ (⟨#[10]⟩ : ByteArray)) HBD.out hbnd
  with_reducible refine CW.mono ?_
  rintro e w2 ⟨⟨u, rfl⟩, hbd, _⟩
  rw [List.nil_append] at hbd
  have hn2 := hbd.chg0.obj HN.out (fun h => h)
  have m1 : w2.cell? ⟨b0, 1, none⟩ = some (.slice A l.length c) := blkCell hn2 1
  obtain ⟨B, hB⟩ : ∃ B, w1.heap.size = B := ⟨_, rfl⟩
  rw [hB] at hbd
  simp only [hB]
  have HBD2 := Lib.hid hbd
  obtain ⟨T, hT⟩ : ∃ T, (t ++ (⟨#[10]⟩ : ByteArray)).data.toList = T := ⟨_, rfl⟩
  have hTl : T.length = t.size + 1 := by rw [← hT, ← hsz1]; exact Array.length_toList
  have HF : Hid (strOf (formL t l) = strOf (T ++ linesL l)) := Lib.hid (by rw [← hT]; rfl)
  rw [hT] at HBD2
  clear n0 n1 HBD hbd hn2 hB hT hbb
  go_wp2_with fail
  go_loopw [17] (fun v wx => ∃ k : Nat, k ≤ l.length ∧ v = .int .i64 k ∧ HD (Bd w1 wx B (T ++ linesL (l.take k)))) (fun v _ => l.length - (intOf v).toNat)
  case atStart => exact ⟨0, Nat.zero_le _, rfl, ⟨by rw [show linesL (l.take 0) = [] from rfl, List.append_nil]; exact HBD2.out⟩⟩
  case round =>
    obtain ⟨k, hk, rfl, HBK⟩ := hrel
    obtain ⟨w3, rfl⟩ : ∃ w3, w3 = wr := ⟨_, rfl⟩
    by_cases hlt : k < l.length
    · obtain ⟨⟨si, st⟩, hx⟩ : ∃ x, l[k]? = some x := ⟨_, List.getElem?_eq_getElem hlt⟩
      obtain ⟨zi, zt⟩ := HSM.out _ (List.mem_iff_getElem?.2 ⟨k, hx⟩)
      have hr2 := SRow.chg HR.out (HG1.out.trans HBK.out.chg0 (fun _ h => h.elim)) (fun _ _ h => h)
      obtain ⟨g, cur, rfl, _⟩ := hr2.at_ (by omega)
      obtain ⟨e0, _⟩ := hr2.cell Sg.len k 0 ⟨si, st⟩ hx (by omega) (.string si) rfl
      obtain ⟨e1, _⟩ := hr2.cell Sg.len k 1 ⟨si, st⟩ hx (by omega) (.string st) rfl
      rw [Nat.add_zero] at e0
      have HST := Lib.hid (linesL_take l k _ hx)
      have hls : (linesL (l.take k)).length ≤ k * 2200 := by
        have key : ∀ j, j ≤ l.length → (linesL (l.take j)).length ≤ j * 2200 := by
          intro j
          induction j with
          | zero => intro _; exact Nat.zero_le _
          | succ j ih =>
            intro hj
            obtain ⟨y, hy⟩ : ∃ y, l[j]? = some y := ⟨_, List.getElem?_eq_getElem hj⟩
            obtain ⟨y1, y2⟩ := HSM.out _ (List.mem_iff_getElem?.2 ⟨j, hy⟩)
            have hz : (lineB y).data.toList.length = (lineB y).size := Array.length_toList
            rw [linesL_take l j y hy, List.length_append, hz, lineB_size]
            have := ih (by omega)
            omega
        exact key k hk
      have hlb := lineB_size ⟨si, st⟩
      have z1 := hexF_size si
      have z2 := hexF_size st
      simp only at zi zt hlb
      have C1 := Lib.hid (fun w => Hex_calls w si (by omega))
      have C2 := Lib.hid (fun w => Hex_calls w st (by omega))
      have hlB : lineB ⟨si, st⟩ = ⟨#[115, 105, 103, 32]⟩ ++ hexF si ++ ⟨#[32]⟩ ++ hexF st ++ ⟨#[10]⟩ := rfl
      obtain ⟨h1, hh1⟩ : ∃ h, hexF si = h := ⟨_, rfl⟩
      obtain ⟨h2, hh2⟩ : ∃ h, hexF st = h := ⟨_, rfl⟩
      rw [hh1] at C1 z1 hlB
      rw [hh2] at C2 z2 hlB
      rw [hlB] at HST hlb
      have K1 := Lib.hid (fun w' => run_string_add_sum (P := Tryz.prog) w' ⟨#[115, 105, 103, 32]⟩ h1 (by show 4 + h1.size ≤ _; omega))
      have K2 := Lib.hid (fun w' => run_string_add_sum (P := Tryz.prog) w' (⟨#[115, 105, 103, 32]⟩ ++ h1) ⟨#[32]⟩ (by rw [ByteArray.size_append]; show 4 + h1.size + 1 ≤ _; omega))
      have K3 := Lib.hid (fun w' => run_string_add_sum (P := Tryz.prog) w' (⟨#[115, 105, 103, 32]⟩ ++ h1 ++ ⟨#[32]⟩) h2 (by rw [ByteArray.size_append, ByteArray.size_append]; show 4 + h1.size + 1 + h2.size ≤ _; omega))
      have K4 := Lib.hid (fun w' => run_string_add_sum (P := Tryz.prog) w' (⟨#[115, 105, 103, 32]⟩ ++ h1 ++ ⟨#[32]⟩ ++ h2) ⟨#[10]⟩ (by rw [ByteArray.size_append, ByteArray.size_append, ByteArray.size_append]; show 4 + h1.size + 1 + h2.size + 1 ≤ _; omega))
      have hbl : (T ++ linesL (l.take k)).length + (⟨#[115, 105, 103, 32]⟩ ++ h1 ++ ⟨#[32]⟩ ++ h2 ++ ⟨#[10]⟩ : ByteArray).size ≤ 140737488355328 := by
        rw [hlb, List.length_append]
        omega
      have HBL := Lib.hid hbl
      have q0 : (0 : Int) ≤ (k : Int) := by omega
      have q1 : (k : Int) < (l.length : Int) := by omega
      clear hx hr2 hls hlb hlB hh1 hh2 hbl
      go_wp2_with fail
      obtain ⟨b3, hb3⟩ : ∃ b3, w3.heap.size = b3 := ⟨_, rfl⟩
      obtain ⟨W3, hW3⟩ : ∃ W3, w3.alloc (.cells #[.string si, .string st] 70) = W3 := ⟨_, rfl⟩
      have hob : W3.heap[b3]? = some (.cells #[.string si, .string st] 70 (0, 0)) := by rw [← hW3, ← hb3]; exact blkAlloc w3 _
      have HBW : Hid (Bd w1 W3 B (T ++ linesL (l.take k))) := Lib.hid (by rw [← hW3]; exact HBK.out.kept ((Chg.refl _ w3).alloc _))
      simp only [hW3]
      simp only [hb3]
      have HOB := Lib.hid hob
      have D := Lib.hid (Chg.refl (fun _ => False) W3)
      have CB := Lib.hid (fun (w' : World) (c : Chg (fun _ => False) W3 w') => (⟨blkCell (c.obj hob (fun h => h)) 0, blkCell (c.obj hob (fun h => h)) 1⟩ : w'.cell? ⟨b3, 0, none⟩ = some (.string si) ∧ w'.cell? ⟨b3, 1, none⟩ = some (.string st)))
      clear hW3 hb3 hob e0 e1
      go_region_held3 (fun w' => w'.cell? ⟨b3, 0, none⟩ = some (.string si) ∧ w'.cell? ⟨b3, 1, none⟩ = some (.string st) ∧ (Op.stringOp .add ⟨#[115, 105, 103, 32]⟩ h1).run Tryz.prog w' = .ok (.string (⟨#[115, 105, 103, 32]⟩ ++ h1)) w' ∧ (Op.stringOp .add (⟨#[115, 105, 103, 32]⟩ ++ h1) ⟨#[32]⟩).run Tryz.prog w' = .ok (.string (⟨#[115, 105, 103, 32]⟩ ++ h1 ++ ⟨#[32]⟩)) w' ∧ (Op.stringOp .add (⟨#[115, 105, 103, 32]⟩ ++ h1 ++ ⟨#[32]⟩) h2).run Tryz.prog w' = .ok (.string (⟨#[115, 105, 103, 32]⟩ ++ h1 ++ ⟨#[32]⟩ ++ h2)) w' ∧ (Op.stringOp .add (⟨#[115, 105, 103, 32]⟩ ++ h1 ++ ⟨#[32]⟩ ++ h2) ⟨#[10]⟩).run Tryz.prog w' = .ok (.string (⟨#[115, 105, 103, 32]⟩ ++ h1 ++ ⟨#[32]⟩ ++ h2 ++ ⟨#[10]⟩)) w')
        (first | exact ⟨j0, j1, K1.out _, K2.out _, K3.out _, K4.out _⟩ | exact ⟨(CB.out _ D.out).1, (CB.out _ D.out).2, K1.out _, K2.out _, K3.out _, K4.out _⟩ | exact ⟨(CB.out _ D.out.drew).1, (CB.out _ D.out.drew).2, K1.out _, K2.out _, K3.out _, K4.out _⟩)
        (first
          | (go_at_call 23; with_reducible refine (C1.out _).mono ?_; rintro e w5 ⟨rfl, hg⟩; have D := Lib.hid (Chg.trans (by first | exact D.out | exact D.out.drew) hg (fun _ h => h.elim)); clear hg)
          | (go_at_call 23; with_reducible refine (C2.out _).mono ?_; rintro e w5 ⟨rfl, hg⟩; have D := Lib.hid (Chg.trans (by first | exact D.out | exact D.out.drew) hg (fun _ h => h.elim)); clear hg)
          | (go_at_call 22; refine (write3 w1 _ B _ _ (HBW.out.kept (by first | exact D.out | exact D.out.drew)) HBL.out).mono ?_; rintro e w6 ⟨⟨u, rfl⟩, hbd, hkb⟩; have h6 := hkb b3 _ _ (D.out.obj HOB.out (fun h => h)) (by decide) (by decide); have j0 : w6.cell? ⟨b3, 0, none⟩ = some (.string si) := blkCell h6 0; have j1 : w6.cell? ⟨b3, 1, none⟩ = some (.string st) := blkCell h6 1; have HBD6 := Lib.hid hbd; clear hbd hkb h6)
          | fail "NOFIT")
      all_goals
        go_wp2_with fail
        exact ⟨⟨k + 1, by omega, by go_num, ⟨by rw [HST.out, ← List.append_assoc]; exact HBD6.out⟩⟩, by simp [intOf]; omega⟩
    · obtain rfl : k = l.length := by omega
      have hb8 := HBK.out
      rw [List.take_length] at hb8
      have C9 := Lib.hid (string_calls w1 w3 B _ hb8)
      clear hb8
      go_wp2_with (go_at_call 24; refine (C9.out).mono ?_; rintro e w9 ⟨rfl, hc⟩; have G := Lib.hid (HG1.out.trans hc (fun _ h => h.elim)); clear hc)
      go_ret2
      exact ⟨by rw [HF.out]; rfl, G.out⟩
theorem Format_calls (w : World) (hg : Glob w) (t : ByteArray) (ht : t.size ≤ 4000000) (A : Option Addr) (c : Nat) (r : Option Nat) (l : List Sg) (h : SgRow w (.slice A l.length c) r l) :
    Calls Tryz.prog 6 #[.agg #[.string t, .slice A l.length c]] w fun e w' => e = .returned (.tuple #[.string (formT t l), .int .i64 (formE t l)]) ∧ Chg (fun _ => False) w w' := by
  cases hb : goodN t l
  · rw [show formT t l = ⟨#[]⟩ from if_neg (by rw [hb]; exact Bool.false_ne_true), show formE t l = 1 from if_neg (by rw [hb]; exact Bool.false_ne_true)]
    exact Format_bad w hg t ht A c r l h hb
  · rw [show formT t l = strOf (formL t l) from if_pos hb, show formE t l = 0 from if_pos hb]
    exact Format_good w hg t ht A c r l h hb
end Go.Proofs.YtmbipabiagdaaaaGreatDoor

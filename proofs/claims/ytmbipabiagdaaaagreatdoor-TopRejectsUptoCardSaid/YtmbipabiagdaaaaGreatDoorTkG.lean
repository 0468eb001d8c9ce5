/- TopRejects: meta.Check, kind by kind. -/
import Derived.Test.YtmbipabiagdaaaaGreatDoorTkE
import Derived.Laws.Rows
namespace Go.Proofs.YtmbipabiagdaaaaGreatDoor
open Go.RowKit Go.Lib Go.Shelf
def chkF (v x : Int) (good : Bool) : Int := if (((!numB v) || decide (x < 0)) || decide ((1099511627776 : Int) < x)) || !good then 1 else 0
theorem docInfo : (Tryz.prog.info? 46).map (·.size) = some 21 := by kernel_rfl
theorem chkF_ok {v x : Int} {good : Bool} (h : chkF v x good = 0) : numB v = true ∧ 0 ≤ x ∧ x ≤ 1099511627776 ∧ good = true := by
  unfold chkF at h
  split at h
  · exact absurd h (by decide)
  · rename_i h1
    simp only [Bool.or_eq_true, Bool.not_eq_true', decide_eq_true_eq, not_or, Bool.not_eq_false] at h1
    exact ⟨h1.1.1.1, by omega, by omega, h1.2⟩
set_option maxRecDepth 100000 in
set_option maxHeartbeats 2000000 in
theorem check1_calls (w : World) (hgl : Glob w) (v x : Int) (s0 s1 s2 s3 s4 : SetV) (g o : ByteArray) (hs : ∀ s ∈ [s0, s1, s2, s3, s4], SetOk w s) (ho : o.size ≤ 1048576) :
    Calls Tryz.prog 40 #[.agg #[.int .i64 1, .int .i64 v, .int .i64 x, .slice s0.A s0.l.length s0.c, .int .i64 s0.n, .slice s1.A s1.l.length s1.c, .int .i64 s1.n, .slice s2.A s2.l.length s2.c, .int .i64 s2.n, .slice s3.A s3.l.length s3.c, .int .i64 s3.n, .slice s4.A s4.l.length s4.c, .int .i64 s4.n, .string g, .string o, .slice none 0 0, .string ⟨#[]⟩, .int .i64 0, .string ⟨#[]⟩, .int .i64 0, .string ⟨#[]⟩]] w fun e w' => e = .returned (.int .i64 (chkF v x (goodR o g [s0, s1, s2, s3, s4]))) ∧ Chg (fun _ => False) w w' := by
  have CG : Hid (∀ w' b, Chg (fun _ => False) w w' → DAt w' b #[.int .i64 1, .int .i64 v, .int .i64 x, .slice s0.A s0.l.length s0.c, .int .i64 s0.n, .slice s1.A s1.l.length s1.c, .int .i64 s1.n, .slice s2.A s2.l.length s2.c, .int .i64 s2.n, .slice s3.A s3.l.length s3.c, .int .i64 s3.n, .slice s4.A s4.l.length s4.c, .int .i64 s4.n, .string g, .string o, .slice none 0 0, .string ⟨#[]⟩, .int .i64 0, .string ⟨#[]⟩, .int .i64 0, .string ⟨#[]⟩] → Calls Tryz.prog 73 #[.pointer (some ⟨b, 0, none⟩)] w' fun e w'' => e = .returned (.bool (goodR o g [s0, s1, s2, s3, s4])) ∧ Chg (fun _ => False) w' w'') := Lib.hid (fun w' b c hd => goodRoot_calls w' (hgl.chg c) b #[.int .i64 1, .int .i64 v, .int .i64 x, .slice s0.A s0.l.length s0.c, .int .i64 s0.n, .slice s1.A s1.l.length s1.c, .int .i64 s1.n, .slice s2.A s2.l.length s2.c, .int .i64 s2.n, .slice s3.A s3.l.length s3.c, .int .i64 s3.n, .slice s4.A s4.l.length s4.c, .int .i64 s4.n, .string g, .string o, .slice none 0 0, .string ⟨#[]⟩, .int .i64 0, .string ⟨#[]⟩, .int .i64 0, .string ⟨#[]⟩] [s0, s1, s2, s3, s4] o g hd ⟨rfl, fun k s hk => by match k, hk with | 0, hk => (injection hk with hk; subst hk; exact ⟨rfl, rfl⟩) | 1, hk => (injection hk with hk; subst hk; exact ⟨rfl, rfl⟩) | 2, hk => (injection hk with hk; subst hk; exact ⟨rfl, rfl⟩) | 3, hk => (injection hk with hk; subst hk; exact ⟨rfl, rfl⟩) | 4, hk => (injection hk with hk; subst hk; exact ⟨rfl, rfl⟩) | k + 5, hk => cases hk⟩ (fun s h => SRow.chg (hs s h) c (fun _ _ h => h)) rfl rfl ho)
  have CN := Lib.hid (fun w => mNumber_calls w v)
  have CZ := Lib.hid (fun w' b hd => zero1_calls w' b v x s0 s1 s2 s3 s4 g o hd)
  have CE := Lib.hid (fun w' => empty_calls w' 1 v x)
  have CF := Lib.hid (fun w' => forms1 w')
  obtain ⟨G, hG⟩ : ∃ G, goodR o g [s0, s1, s2, s3, s4] = G := ⟨_, rfl⟩
  obtain ⟨q, hq⟩ : ∃ q, numB v = q := ⟨_, rfl⟩
  rw [hG] at CG ⊢
  rw [hq] at CN
  obtain ⟨q3, d3⟩ : ∃ q, decide ((1099511627776 : Int) < x) = q := ⟨_, rfl⟩
  have HE : Hid (chkF v x G = if (((!q) || decide (x < 0)) || q3) || !G then 1 else 0) := Lib.hid (by rw [chkF, hq, d3])
  obtain ⟨R, hR⟩ : ∃ R, chkF v x G = R := ⟨_, rfl⟩
  rw [hR] at HE ⊢
  clear hR hG hq hgl hs ho
  go_enter Tryz.func40, Tryz.ntmps40
  go_wp2_with fail
  obtain ⟨b, hb⟩ : ∃ b, w.heap.size = b := ⟨_, rfl⟩
  obtain ⟨W0, hW⟩ : ∃ W0, w.alloc (.cells #[.int .i64 1, .int .i64 v, .int .i64 x, .slice s0.A s0.l.length s0.c, .int .i64 s0.n, .slice s1.A s1.l.length s1.c, .int .i64 s1.n, .slice s2.A s2.l.length s2.c, .int .i64 s2.n, .slice s3.A s3.l.length s3.c, .int .i64 s3.n, .slice s4.A s4.l.length s4.c, .int .i64 s4.n, .string g, .string o, .slice none 0 0, .string ⟨#[]⟩, .int .i64 0, .string ⟨#[]⟩, .int .i64 0, .string ⟨#[]⟩] 46) = W0 := ⟨_, rfl⟩
  have hob : DAt W0 b #[.int .i64 1, .int .i64 v, .int .i64 x, .slice s0.A s0.l.length s0.c, .int .i64 s0.n, .slice s1.A s1.l.length s1.c, .int .i64 s1.n, .slice s2.A s2.l.length s2.c, .int .i64 s2.n, .slice s3.A s3.l.length s3.c, .int .i64 s3.n, .slice s4.A s4.l.length s4.c, .int .i64 s4.n, .string g, .string o, .slice none 0 0, .string ⟨#[]⟩, .int .i64 0, .string ⟨#[]⟩, .int .i64 0, .string ⟨#[]⟩] := by rw [← hW, ← hb]; exact blkAlloc w _
  have HCH : Hid (Chg (fun _ => False) w W0) := Lib.hid (by rw [← hW]; exact (Chg.refl _ w).alloc _)
  have HBW : Hid (w.heap.size ≤ b) := Lib.hid (Nat.le_of_eq hb)
  simp only [hW]
  simp only [hb]
  clear hW hb
  refine (CF.out W0).mono ?_
  rintro e w1 ⟨rfl, hc⟩
  obtain ⟨fb, hfb⟩ : ∃ f, w1.heap.size = f := ⟨_, rfl⟩
  obtain ⟨W1, hW1⟩ : ∃ W, w1.alloc (.cells #[.func (.func 73) #[] #[], .func (.func 74) #[] #[], .func (.func 75) #[] #[], .func (.func 76) #[] #[]] 89) = W := ⟨_, rfl⟩
  have hfo : W1.heap[fb]? = some (.cells #[.func (.func 73) #[] #[], .func (.func 74) #[] #[], .func (.func 75) #[] #[], .func (.func 76) #[] #[]] 89 (0, 0)) := by rw [← hW1, ← hfb]; exact blkAlloc w1 _
  have hc1 : Chg (fun _ => False) w1 W1 := by rw [← hW1]; exact (Chg.refl _ w1).alloc _
  have hd1 : DAt W1 b #[.int .i64 1, .int .i64 v, .int .i64 x, .slice s0.A s0.l.length s0.c, .int .i64 s0.n, .slice s1.A s1.l.length s1.c, .int .i64 s1.n, .slice s2.A s2.l.length s2.c, .int .i64 s2.n, .slice s3.A s3.l.length s3.c, .int .i64 s3.n, .slice s4.A s4.l.length s4.c, .int .i64 s4.n, .string g, .string o, .slice none 0 0, .string ⟨#[]⟩, .int .i64 0, .string ⟨#[]⟩, .int .i64 0, .string ⟨#[]⟩] := hc1.obj (hc.obj hob (fun h => h)) (fun h => h)
  have D := Lib.hid ((HCH.out.trans hc (fun _ h => h.elim)).trans hc1 (fun _ h => h.elim))
  have c1 : W1.cell? ⟨b, 1, none⟩ = some (.int .i64 v) := blkCell hd1 1
  have c2 : W1.cell? ⟨b, 2, none⟩ = some (.int .i64 x) := blkCell hd1 2
  have g0 : W1.cell? ⟨fb, 0, none⟩ = some (.func (.func 73) #[] #[]) := blkCell hfo 0
  have HD1 := Lib.hid hd1
  have HF := Lib.hid hfo
  clear hc hob hc1 hd1 hfo
  cases q
  case false =>
    have HR : Hid (R = 1) := Lib.hid (by rw [HE.out]; rfl)
    go_wp2_with (go_at_call 90; refine (CN.out _).mono ?_; rintro e w2 ⟨rfl, he⟩; obtain rfl := he)
    go_ret
    exact ⟨by rw [HR.out]; rfl, D.out⟩
  case true =>
    cases d2 : decide (x < 0)
    case true =>
      have HR : Hid (R = 1) := Lib.hid (by rw [HE.out, d2]; rfl)
      go_wp2_with (go_at_call 90; refine (CN.out _).mono ?_; rintro e w2 ⟨rfl, he⟩; obtain rfl := he)
      go_ret
      exact ⟨by rw [HR.out]; rfl, D.out⟩
    case false =>
      cases q3
      case true =>
        have HR : Hid (R = 1) := Lib.hid (by rw [HE.out, d2]; rfl)
        go_wp2_with (go_at_call 90; refine (CN.out _).mono ?_; rintro e w2 ⟨rfl, he⟩; obtain rfl := he)
        go_ret
        exact ⟨by rw [HR.out]; rfl, D.out⟩
      case false =>
        have HR : Hid (R = if (!G) = true then 1 else 0) := Lib.hid (by rw [HE.out, d2]; rfl)
        cases G
        case false =>
          go_wp2_with (first
            | (go_at_call 90; refine (CN.out _).mono ?_; rintro e w2 ⟨rfl, he⟩; obtain rfl := he)
            | (go_at_call 73; refine (CG.out _ _ D.out HD1.out).mono ?_; rintro e w3 ⟨rfl, hc⟩; have D := Lib.hid (D.out.trans hc (fun _ h => h.elim)); clear hc))
          go_ret
          exact ⟨by rw [HR.out]; rfl, D.out⟩
        case true =>
          go_wp2_with (first
            | (go_at_call 90; refine (CN.out _).mono ?_; rintro e w2 ⟨rfl, he⟩; obtain rfl := he)
            | (go_at_call 73; refine (CG.out _ _ D.out HD1.out).mono ?_; rintro e w3 ⟨rfl, hc⟩; have D := Lib.hid (D.out.trans hc (fun _ h => h.elim)); have HD3 := Lib.hid (hc.obj HD1.out (fun h => h)); have g3 : w3.cell? ⟨fb, 3, none⟩ = some (.func (.func 76) #[] #[]) := blkCell (hc.obj HF.out (fun h => h)) 3; clear hc)
            | (go_at_call 76; refine (CZ.out _ _ HD3.out).mono ?_; rintro e w4 ⟨rfl, hz, hc⟩; have D := Lib.hid (D.out.trans hc (fun k e => .inr (by rw [e]; exact HBW.out))); have HD4 := Lib.hid hz; clear hz hc)
            | (refine wpList_load_row rfl 46 (.tmp 1) rfl b rfl 46 #[.int .i64 1, .int .i64 v, .int .i64 x, .slice none 0 0, .int .i64 0, .slice none 0 0, .int .i64 0, .slice none 0 0, .int .i64 0, .slice none 0 0, .int .i64 0, .slice none 0 0, .int .i64 0, .string ⟨#[]⟩, .string ⟨#[]⟩, .slice none 0 0, .string ⟨#[]⟩, .int .i64 0, .string ⟨#[]⟩, .int .i64 0, .string ⟨#[]⟩] (0, 0) _ HD4.out Tryz.underlying46 rfl docInfo ?_)
            | (go_at_call 91; refine (CE.out _).mono ?_; rintro e w5 ⟨rfl, hc⟩; have D := Lib.hid (D.out.trans hc (fun _ h => h.elim)); clear hc))
          go_ret
          exact ⟨by rw [HR.out]; rfl, D.out⟩
set_option maxRecDepth 100000 in
set_option maxHeartbeats 2000000 in
theorem check2_calls (w : World) (hgl : Glob w) (v x : Int) (A : Option Addr) (c : Nat) (r : Option Nat) (l : List Tg) (hr : TgRow w (.slice A l.length c) r l) (hl : l.length ≤ 1048576) :
    Calls Tryz.prog 40 #[.agg #[.int .i64 2, .int .i64 v, .int .i64 x, .slice none 0 0, .int .i64 0, .slice none 0 0, .int .i64 0, .slice none 0 0, .int .i64 0, .slice none 0 0, .int .i64 0, .slice none 0 0, .int .i64 0, .string ⟨#[]⟩, .string ⟨#[]⟩, .slice A l.length c, .string ⟨#[]⟩, .int .i64 0, .string ⟨#[]⟩, .int .i64 0, .string ⟨#[]⟩]] w fun e w' => e = .returned (.int .i64 (chkF v x (goodTg l))) ∧ Chg (fun _ => False) w w' := by
  have CG : Hid (∀ w' b, Chg (fun _ => False) w w' → DAt w' b #[.int .i64 2, .int .i64 v, .int .i64 x, .slice none 0 0, .int .i64 0, .slice none 0 0, .int .i64 0, .slice none 0 0, .int .i64 0, .slice none 0 0, .int .i64 0, .slice none 0 0, .int .i64 0, .string ⟨#[]⟩, .string ⟨#[]⟩, .slice A l.length c, .string ⟨#[]⟩, .int .i64 0, .string ⟨#[]⟩, .int .i64 0, .string ⟨#[]⟩] → Calls Tryz.prog 77 #[.pointer (some ⟨b, 0, none⟩)] w' fun e w'' => e = .returned (.bool (goodTg l)) ∧ Chg (fun _ => False) w' w'') := Lib.hid (fun w' b c1 hd => goodTargets_calls w' b #[.int .i64 2, .int .i64 v, .int .i64 x, .slice none 0 0, .int .i64 0, .slice none 0 0, .int .i64 0, .slice none 0 0, .int .i64 0, .slice none 0 0, .int .i64 0, .slice none 0 0, .int .i64 0, .string ⟨#[]⟩, .string ⟨#[]⟩, .slice A l.length c, .string ⟨#[]⟩, .int .i64 0, .string ⟨#[]⟩, .int .i64 0, .string ⟨#[]⟩] A c r l hd rfl (SRow.chg hr c1 (fun _ _ h => h)) hl)
  have CN := Lib.hid (fun w => mNumber_calls w v)
  have CZ := Lib.hid (fun w' b hd => zero2_calls w' b v x A c r l hd)
  have CE := Lib.hid (fun w' => empty_calls w' 2 v x)
  have CF := Lib.hid (fun w' => forms2 w')
  obtain ⟨G, hG⟩ : ∃ G, goodTg l = G := ⟨_, rfl⟩
  obtain ⟨q, hq⟩ : ∃ q, numB v = q := ⟨_, rfl⟩
  rw [hG] at CG ⊢
  rw [hq] at CN
  obtain ⟨q3, d3⟩ : ∃ q, decide ((1099511627776 : Int) < x) = q := ⟨_, rfl⟩
  have HE : Hid (chkF v x G = if (((!q) || decide (x < 0)) || q3) || !G then 1 else 0) := Lib.hid (by rw [chkF, hq, d3])
  obtain ⟨R, hR⟩ : ∃ R, chkF v x G = R := ⟨_, rfl⟩
  rw [hR] at HE ⊢
  clear hR hG hq hgl hr hl
  go_enter Tryz.func40, Tryz.ntmps40
  go_wp2_with fail
  obtain ⟨b, hb⟩ : ∃ b, w.heap.size = b := ⟨_, rfl⟩
  obtain ⟨W0, hW⟩ : ∃ W0, w.alloc (.cells #[.int .i64 2, .int .i64 v, .int .i64 x, .slice none 0 0, .int .i64 0, .slice none 0 0, .int .i64 0, .slice none 0 0, .int .i64 0, .slice none 0 0, .int .i64 0, .slice none 0 0, .int .i64 0, .string ⟨#[]⟩, .string ⟨#[]⟩, .slice A l.length c, .string ⟨#[]⟩, .int .i64 0, .string ⟨#[]⟩, .int .i64 0, .string ⟨#[]⟩] 46) = W0 := ⟨_, rfl⟩
  have hob : DAt W0 b #[.int .i64 2, .int .i64 v, .int .i64 x, .slice none 0 0, .int .i64 0, .slice none 0 0, .int .i64 0, .slice none 0 0, .int .i64 0, .slice none 0 0, .int .i64 0, .slice none 0 0, .int .i64 0, .string ⟨#[]⟩, .string ⟨#[]⟩, .slice A l.length c, .string ⟨#[]⟩, .int .i64 0, .string ⟨#[]⟩, .int .i64 0, .string ⟨#[]⟩] := by rw [← hW, ← hb]; exact blkAlloc w _
  have HCH : Hid (Chg (fun _ => False) w W0) := Lib.hid (by rw [← hW]; exact (Chg.refl _ w).alloc _)
  have HBW : Hid (w.heap.size ≤ b) := Lib.hid (Nat.le_of_eq hb)
  simp only [hW]
  simp only [hb]
  clear hW hb
  refine (CF.out W0).mono ?_
  rintro e w1 ⟨rfl, hc⟩
  obtain ⟨fb, hfb⟩ : ∃ f, w1.heap.size = f := ⟨_, rfl⟩
  obtain ⟨W1, hW1⟩ : ∃ W, w1.alloc (.cells #[.func (.func 77) #[] #[], .func (.func 78) #[] #[], .func (.func 79) #[] #[], .func (.func 80) #[] #[]] 89) = W := ⟨_, rfl⟩
  have hfo : W1.heap[fb]? = some (.cells #[.func (.func 77) #[] #[], .func (.func 78) #[] #[], .func (.func 79) #[] #[], .func (.func 80) #[] #[]] 89 (0, 0)) := by rw [← hW1, ← hfb]; exact blkAlloc w1 _
  have hc1 : Chg (fun _ => False) w1 W1 := by rw [← hW1]; exact (Chg.refl _ w1).alloc _
  have hd1 : DAt W1 b #[.int .i64 2, .int .i64 v, .int .i64 x, .slice none 0 0, .int .i64 0, .slice none 0 0, .int .i64 0, .slice none 0 0, .int .i64 0, .slice none 0 0, .int .i64 0, .slice none 0 0, .int .i64 0, .string ⟨#[]⟩, .string ⟨#[]⟩, .slice A l.length c, .string ⟨#[]⟩, .int .i64 0, .string ⟨#[]⟩, .int .i64 0, .string ⟨#[]⟩] := hc1.obj (hc.obj hob (fun h => h)) (fun h => h)
  have D := Lib.hid ((HCH.out.trans hc (fun _ h => h.elim)).trans hc1 (fun _ h => h.elim))
  have c1 : W1.cell? ⟨b, 1, none⟩ = some (.int .i64 v) := blkCell hd1 1
  have c2 : W1.cell? ⟨b, 2, none⟩ = some (.int .i64 x) := blkCell hd1 2
  have g0 : W1.cell? ⟨fb, 0, none⟩ = some (.func (.func 77) #[] #[]) := blkCell hfo 0
  have HD1 := Lib.hid hd1
  have HF := Lib.hid hfo
  clear hc hob hc1 hd1 hfo
  cases q
  case false =>
    have HR : Hid (R = 1) := Lib.hid (by rw [HE.out]; rfl)
    go_wp2_with (go_at_call 90; refine (CN.out _).mono ?_; rintro e w2 ⟨rfl, he⟩; obtain rfl := he)
    go_ret
    exact ⟨by rw [HR.out]; rfl, D.out⟩
  case true =>
    cases d2 : decide (x < 0)
    case true =>
      have HR : Hid (R = 1) := Lib.hid (by rw [HE.out, d2]; rfl)
      go_wp2_with (go_at_call 90; refine (CN.out _).mono ?_; rintro e w2 ⟨rfl, he⟩; obtain rfl := he)
      go_ret
      exact ⟨by rw [HR.out]; rfl, D.out⟩
    case false =>
      cases q3
      case true =>
        have HR : Hid (R = 1) := Lib.hid (by rw [HE.out, d2]; rfl)
        go_wp2_with (go_at_call 90; refine (CN.out _).mono ?_; rintro e w2 ⟨rfl, he⟩; obtain rfl := he)
        go_ret
        exact ⟨by rw [HR.out]; rfl, D.out⟩
      case false =>
        have HR : Hid (R = if (!G) = true then 1 else 0) := Lib.hid (by rw [HE.out, d2]; rfl)
        cases G
        case false =>
          go_wp2_with (first
            | (go_at_call 90; refine (CN.out _).mono ?_; rintro e w2 ⟨rfl, he⟩; obtain rfl := he)
            | (go_at_call 77; refine (CG.out _ _ D.out HD1.out).mono ?_; rintro e w3 ⟨rfl, hc⟩; have D := Lib.hid (D.out.trans hc (fun _ h => h.elim)); clear hc))
          go_ret
          exact ⟨by rw [HR.out]; rfl, D.out⟩
        case true =>
          go_wp2_with (first
            | (go_at_call 90; refine (CN.out _).mono ?_; rintro e w2 ⟨rfl, he⟩; obtain rfl := he)
            | (go_at_call 77; refine (CG.out _ _ D.out HD1.out).mono ?_; rintro e w3 ⟨rfl, hc⟩; have D := Lib.hid (D.out.trans hc (fun _ h => h.elim)); have HD3 := Lib.hid (hc.obj HD1.out (fun h => h)); have g3 : w3.cell? ⟨fb, 3, none⟩ = some (.func (.func 80) #[] #[]) := blkCell (hc.obj HF.out (fun h => h)) 3; clear hc)
            | (go_at_call 80; refine (CZ.out _ _ HD3.out).mono ?_; rintro e w4 ⟨rfl, hz, hc⟩; have D := Lib.hid (D.out.trans hc (fun k e => .inr (by rw [e]; exact HBW.out))); have HD4 := Lib.hid hz; clear hz hc)
            | (refine wpList_load_row rfl 46 (.tmp 1) rfl b rfl 46 #[.int .i64 2, .int .i64 v, .int .i64 x, .slice none 0 0, .int .i64 0, .slice none 0 0, .int .i64 0, .slice none 0 0, .int .i64 0, .slice none 0 0, .int .i64 0, .slice none 0 0, .int .i64 0, .string ⟨#[]⟩, .string ⟨#[]⟩, .slice none 0 0, .string ⟨#[]⟩, .int .i64 0, .string ⟨#[]⟩, .int .i64 0, .string ⟨#[]⟩] (0, 0) _ HD4.out Tryz.underlying46 rfl docInfo ?_)
            | (go_at_call 91; refine (CE.out _).mono ?_; rintro e w5 ⟨rfl, hc⟩; have D := Lib.hid (D.out.trans hc (fun _ h => h.elim)); clear hc))
          go_ret
          exact ⟨by rw [HR.out]; rfl, D.out⟩
set_option maxRecDepth 100000 in
set_option maxHeartbeats 2000000 in
theorem check3_calls (w : World) (hgl : Glob w) (v x : Int) (o : ByteArray) (n : Int) (r : ByteArray) (f : Int) (h : ByteArray) (ho : o.size ≤ 1048576) :
    Calls Tryz.prog 40 #[.agg #[.int .i64 3, .int .i64 v, .int .i64 x, .slice none 0 0, .int .i64 0, .slice none 0 0, .int .i64 0, .slice none 0 0, .int .i64 0, .slice none 0 0, .int .i64 0, .slice none 0 0, .int .i64 0, .string ⟨#[]⟩, .string ⟨#[]⟩, .slice none 0 0, .string o, .int .i64 n, .string r, .int .i64 f, .string h]] w fun e w' => e = .returned (.int .i64 (chkF v x (goodSn o n r f h))) ∧ Chg (fun _ => False) w w' := by
  have CG : Hid (∀ w' b, Chg (fun _ => False) w w' → DAt w' b #[.int .i64 3, .int .i64 v, .int .i64 x, .slice none 0 0, .int .i64 0, .slice none 0 0, .int .i64 0, .slice none 0 0, .int .i64 0, .slice none 0 0, .int .i64 0, .slice none 0 0, .int .i64 0, .string ⟨#[]⟩, .string ⟨#[]⟩, .slice none 0 0, .string o, .int .i64 n, .string r, .int .i64 f, .string h] → Calls Tryz.prog 81 #[.pointer (some ⟨b, 0, none⟩)] w' fun e w'' => e = .returned (.bool (goodSn o n r f h)) ∧ Chg (fun _ => False) w' w'') := Lib.hid (fun w' b c hd => goodSnapshot_calls w' (hgl.chg c) b #[.int .i64 3, .int .i64 v, .int .i64 x, .slice none 0 0, .int .i64 0, .slice none 0 0, .int .i64 0, .slice none 0 0, .int .i64 0, .slice none 0 0, .int .i64 0, .slice none 0 0, .int .i64 0, .string ⟨#[]⟩, .string ⟨#[]⟩, .slice none 0 0, .string o, .int .i64 n, .string r, .int .i64 f, .string h] o n r f h hd rfl rfl rfl rfl rfl ho)
  have CN := Lib.hid (fun w => mNumber_calls w v)
  have CZ := Lib.hid (fun w' b hd => zero3_calls w' b v x o n r f h hd)
  have CE := Lib.hid (fun w' => empty_calls w' 3 v x)
  have CF := Lib.hid (fun w' => forms3 w')
  obtain ⟨G, hG⟩ : ∃ G, goodSn o n r f h = G := ⟨_, rfl⟩
  obtain ⟨q, hq⟩ : ∃ q, numB v = q := ⟨_, rfl⟩
  rw [hG] at CG ⊢
  rw [hq] at CN
  obtain ⟨q3, d3⟩ : ∃ q, decide ((1099511627776 : Int) < x) = q := ⟨_, rfl⟩
  have HE : Hid (chkF v x G = if (((!q) || decide (x < 0)) || q3) || !G then 1 else 0) := Lib.hid (by rw [chkF, hq, d3])
  obtain ⟨R, hR⟩ : ∃ R, chkF v x G = R := ⟨_, rfl⟩
  rw [hR] at HE ⊢
  clear hR hG hq hgl ho
  go_enter Tryz.func40, Tryz.ntmps40
  go_wp2_with fail
  obtain ⟨b, hb⟩ : ∃ b, w.heap.size = b := ⟨_, rfl⟩
  obtain ⟨W0, hW⟩ : ∃ W0, w.alloc (.cells #[.int .i64 3, .int .i64 v, .int .i64 x, .slice none 0 0, .int .i64 0, .slice none 0 0, .int .i64 0, .slice none 0 0, .int .i64 0, .slice none 0 0, .int .i64 0, .slice none 0 0, .int .i64 0, .string ⟨#[]⟩, .string ⟨#[]⟩, .slice none 0 0, .string o, .int .i64 n, .string r, .int .i64 f, .string h] 46) = W0 := ⟨_, rfl⟩
  have hob : DAt W0 b #[.int .i64 3, .int .i64 v, .int .i64 x, .slice none 0 0, .int .i64 0, .slice none 0 0, .int .i64 0, .slice none 0 0, .int .i64 0, .slice none 0 0, .int .i64 0, .slice none 0 0, .int .i64 0, .string ⟨#[]⟩, .string ⟨#[]⟩, .slice none 0 0, .string o, .int .i64 n, .string r, .int .i64 f, .string h] := by rw [← hW, ← hb]; exact blkAlloc w _
  have HCH : Hid (Chg (fun _ => False) w W0) := Lib.hid (by rw [← hW]; exact (Chg.refl _ w).alloc _)
  have HBW : Hid (w.heap.size ≤ b) := Lib.hid (Nat.le_of_eq hb)
  simp only [hW]
  simp only [hb]
  clear hW hb
  refine (CF.out W0).mono ?_
  rintro e w1 ⟨rfl, hc⟩
  obtain ⟨fb, hfb⟩ : ∃ f, w1.heap.size = f := ⟨_, rfl⟩
  obtain ⟨W1, hW1⟩ : ∃ W, w1.alloc (.cells #[.func (.func 81) #[] #[], .func (.func 82) #[] #[], .func (.func 83) #[] #[], .func (.func 84) #[] #[]] 89) = W := ⟨_, rfl⟩
  have hfo : W1.heap[fb]? = some (.cells #[.func (.func 81) #[] #[], .func (.func 82) #[] #[], .func (.func 83) #[] #[], .func (.func 84) #[] #[]] 89 (0, 0)) := by rw [← hW1, ← hfb]; exact blkAlloc w1 _
  have hc1 : Chg (fun _ => False) w1 W1 := by rw [← hW1]; exact (Chg.refl _ w1).alloc _
  have hd1 : DAt W1 b #[.int .i64 3, .int .i64 v, .int .i64 x, .slice none 0 0, .int .i64 0, .slice none 0 0, .int .i64 0, .slice none 0 0, .int .i64 0, .slice none 0 0, .int .i64 0, .slice none 0 0, .int .i64 0, .string ⟨#[]⟩, .string ⟨#[]⟩, .slice none 0 0, .string o, .int .i64 n, .string r, .int .i64 f, .string h] := hc1.obj (hc.obj hob (fun h => h)) (fun h => h)
  have D := Lib.hid ((HCH.out.trans hc (fun _ h => h.elim)).trans hc1 (fun _ h => h.elim))
  have c1 : W1.cell? ⟨b, 1, none⟩ = some (.int .i64 v) := blkCell hd1 1
  have c2 : W1.cell? ⟨b, 2, none⟩ = some (.int .i64 x) := blkCell hd1 2
  have g0 : W1.cell? ⟨fb, 0, none⟩ = some (.func (.func 81) #[] #[]) := blkCell hfo 0
  have HD1 := Lib.hid hd1
  have HF := Lib.hid hfo
  clear hc hob hc1 hd1 hfo
  cases q
  case false =>
    have HR : Hid (R = 1) := Lib.hid (by rw [HE.out]; rfl)
    go_wp2_with (go_at_call 90; refine (CN.out _).mono ?_; rintro e w2 ⟨rfl, he⟩; obtain rfl := he)
    go_ret
    exact ⟨by rw [HR.out]; rfl, D.out⟩
  case true =>
    cases d2 : decide (x < 0)
    case true =>
      have HR : Hid (R = 1) := Lib.hid (by rw [HE.out, d2]; rfl)
      go_wp2_with (go_at_call 90; refine (CN.out _).mono ?_; rintro e w2 ⟨rfl, he⟩; obtain rfl := he)
      go_ret
      exact ⟨by rw [HR.out]; rfl, D.out⟩
    case false =>
      cases q3
      case true =>
        have HR : Hid (R = 1) := Lib.hid (by rw [HE.out, d2]; rfl)
        go_wp2_with (go_at_call 90; refine (CN.out _).mono ?_; rintro e w2 ⟨rfl, he⟩; obtain rfl := he)
        go_ret
        exact ⟨by rw [HR.out]; rfl, D.out⟩
      case false =>
        have HR : Hid (R = if (!G) = true then 1 else 0) := Lib.hid (by rw [HE.out, d2]; rfl)
        cases G
        case false =>
          go_wp2_with (first
            | (go_at_call 90; refine (CN.out _).mono ?_; rintro e w2 ⟨rfl, he⟩; obtain rfl := he)
            | (go_at_call 81; refine (CG.out _ _ D.out HD1.out).mono ?_; rintro e w3 ⟨rfl, hc⟩; have D := Lib.hid (D.out.trans hc (fun _ h => h.elim)); clear hc))
          go_ret
          exact ⟨by rw [HR.out]; rfl, D.out⟩
        case true =>
          go_wp2_with (first
            | (go_at_call 90; refine (CN.out _).mono ?_; rintro e w2 ⟨rfl, he⟩; obtain rfl := he)
            | (go_at_call 81; refine (CG.out _ _ D.out HD1.out).mono ?_; rintro e w3 ⟨rfl, hc⟩; have D := Lib.hid (D.out.trans hc (fun _ h => h.elim)); have HD3 := Lib.hid (hc.obj HD1.out (fun h => h)); have g3 : w3.cell? ⟨fb, 3, none⟩ = some (.func (.func 84) #[] #[]) := blkCell (hc.obj HF.out (fun h => h)) 3; clear hc)
            | (go_at_call 84; refine (CZ.out _ _ HD3.out).mono ?_; rintro e w4 ⟨rfl, hz, hc⟩; have D := Lib.hid (D.out.trans hc (fun k e => .inr (by rw [e]; exact HBW.out))); have HD4 := Lib.hid hz; clear hz hc)
            | (refine wpList_load_row rfl 46 (.tmp 1) rfl b rfl 46 #[.int .i64 3, .int .i64 v, .int .i64 x, .slice none 0 0, .int .i64 0, .slice none 0 0, .int .i64 0, .slice none 0 0, .int .i64 0, .slice none 0 0, .int .i64 0, .slice none 0 0, .int .i64 0, .string ⟨#[]⟩, .string ⟨#[]⟩, .slice none 0 0, .string ⟨#[]⟩, .int .i64 0, .string ⟨#[]⟩, .int .i64 0, .string ⟨#[]⟩] (0, 0) _ HD4.out Tryz.underlying46 rfl docInfo ?_)
            | (go_at_call 91; refine (CE.out _).mono ?_; rintro e w5 ⟨rfl, hc⟩; have D := Lib.hid (D.out.trans hc (fun _ h => h.elim)); clear hc))
          go_ret
          exact ⟨by rw [HR.out]; rfl, D.out⟩
set_option maxRecDepth 100000 in
set_option maxHeartbeats 2000000 in
theorem check4_calls (w : World) (hgl : Glob w) (v x : Int) (f : Int) (h : ByteArray)  :
    Calls Tryz.prog 40 #[.agg #[.int .i64 4, .int .i64 v, .int .i64 x, .slice none 0 0, .int .i64 0, .slice none 0 0, .int .i64 0, .slice none 0 0, .int .i64 0, .slice none 0 0, .int .i64 0, .slice none 0 0, .int .i64 0, .string ⟨#[]⟩, .string ⟨#[]⟩, .slice none 0 0, .string ⟨#[]⟩, .int .i64 0, .string ⟨#[]⟩, .int .i64 f, .string h]] w fun e w' => e = .returned (.int .i64 (chkF v x (goodTs f h))) ∧ Chg (fun _ => False) w w' := by
  have CG : Hid (∀ w' b, Chg (fun _ => False) w w' → DAt w' b #[.int .i64 4, .int .i64 v, .int .i64 x, .slice none 0 0, .int .i64 0, .slice none 0 0, .int .i64 0, .slice none 0 0, .int .i64 0, .slice none 0 0, .int .i64 0, .slice none 0 0, .int .i64 0, .string ⟨#[]⟩, .string ⟨#[]⟩, .slice none 0 0, .string ⟨#[]⟩, .int .i64 0, .string ⟨#[]⟩, .int .i64 f, .string h] → Calls Tryz.prog 85 #[.pointer (some ⟨b, 0, none⟩)] w' fun e w'' => e = .returned (.bool (goodTs f h)) ∧ Chg (fun _ => False) w' w'') := Lib.hid (fun w' b c hd => (goodTimestamp_calls w' b #[.int .i64 4, .int .i64 v, .int .i64 x, .slice none 0 0, .int .i64 0, .slice none 0 0, .int .i64 0, .slice none 0 0, .int .i64 0, .slice none 0 0, .int .i64 0, .slice none 0 0, .int .i64 0, .string ⟨#[]⟩, .string ⟨#[]⟩, .slice none 0 0, .string ⟨#[]⟩, .int .i64 0, .string ⟨#[]⟩, .int .i64 f, .string h] f h hd rfl rfl).mono fun e w'' ⟨he, hw⟩ => ⟨he, by rw [hw]; exact Chg.refl _ _⟩)
  have CN := Lib.hid (fun w => mNumber_calls w v)
  have CZ := Lib.hid (fun w' b hd => zero4_calls w' b v x f h hd)
  have CE := Lib.hid (fun w' => empty_calls w' 4 v x)
  have CF := Lib.hid (fun w' => forms4 w')
  obtain ⟨G, hG⟩ : ∃ G, goodTs f h = G := ⟨_, rfl⟩
  obtain ⟨q, hq⟩ : ∃ q, numB v = q := ⟨_, rfl⟩
  rw [hG] at CG ⊢
  rw [hq] at CN
  obtain ⟨q3, d3⟩ : ∃ q, decide ((1099511627776 : Int) < x) = q := ⟨_, rfl⟩
  have HE : Hid (chkF v x G = if (((!q) || decide (x < 0)) || q3) || !G then 1 else 0) := Lib.hid (by rw [chkF, hq, d3])
  obtain ⟨R, hR⟩ : ∃ R, chkF v x G = R := ⟨_, rfl⟩
  rw [hR] at HE ⊢
  clear hR hG hq hgl
  go_enter Tryz.func40, Tryz.ntmps40
  go_wp2_with fail
  obtain ⟨b, hb⟩ : ∃ b, w.heap.size = b := ⟨_, rfl⟩
  obtain ⟨W0, hW⟩ : ∃ W0, w.alloc (.cells #[.int .i64 4, .int .i64 v, .int .i64 x, .slice none 0 0, .int .i64 0, .slice none 0 0, .int .i64 0, .slice none 0 0, .int .i64 0, .slice none 0 0, .int .i64 0, .slice none 0 0, .int .i64 0, .string ⟨#[]⟩, .string ⟨#[]⟩, .slice none 0 0, .string ⟨#[]⟩, .int .i64 0, .string ⟨#[]⟩, .int .i64 f, .string h] 46) = W0 := ⟨_, rfl⟩
  have hob : DAt W0 b #[.int .i64 4, .int .i64 v, .int .i64 x, .slice none 0 0, .int .i64 0, .slice none 0 0, .int .i64 0, .slice none 0 0, .int .i64 0, .slice none 0 0, .int .i64 0, .slice none 0 0, .int .i64 0, .string ⟨#[]⟩, .string ⟨#[]⟩, .slice none 0 0, .string ⟨#[]⟩, .int .i64 0, .string ⟨#[]⟩, .int .i64 f, .string h] := by rw [← hW, ← hb]; exact blkAlloc w _
  have HCH : Hid (Chg (fun _ => False) w W0) := Lib.hid (by rw [← hW]; exact (Chg.refl _ w).alloc _)
  have HBW : Hid (w.heap.size ≤ b) := Lib.hid (Nat.le_of_eq hb)
  simp only [hW]
  simp only [hb]
  clear hW hb
  refine (CF.out W0).mono ?_
  rintro e w1 ⟨rfl, hc⟩
  obtain ⟨fb, hfb⟩ : ∃ f, w1.heap.size = f := ⟨_, rfl⟩
  obtain ⟨W1, hW1⟩ : ∃ W, w1.alloc (.cells #[.func (.func 85) #[] #[], .func (.func 86) #[] #[], .func (.func 87) #[] #[], .func (.func 88) #[] #[]] 89) = W := ⟨_, rfl⟩
  have hfo : W1.heap[fb]? = some (.cells #[.func (.func 85) #[] #[], .func (.func 86) #[] #[], .func (.func 87) #[] #[], .func (.func 88) #[] #[]] 89 (0, 0)) := by rw [← hW1, ← hfb]; exact blkAlloc w1 _
  have hc1 : Chg (fun _ => False) w1 W1 := by rw [← hW1]; exact (Chg.refl _ w1).alloc _
  have hd1 : DAt W1 b #[.int .i64 4, .int .i64 v, .int .i64 x, .slice none 0 0, .int .i64 0, .slice none 0 0, .int .i64 0, .slice none 0 0, .int .i64 0, .slice none 0 0, .int .i64 0, .slice none 0 0, .int .i64 0, .string ⟨#[]⟩, .string ⟨#[]⟩, .slice none 0 0, .string ⟨#[]⟩, .int .i64 0, .string ⟨#[]⟩, .int .i64 f, .string h] := hc1.obj (hc.obj hob (fun h => h)) (fun h => h)
  have D := Lib.hid ((HCH.out.trans hc (fun _ h => h.elim)).trans hc1 (fun _ h => h.elim))
  have c1 : W1.cell? ⟨b, 1, none⟩ = some (.int .i64 v) := blkCell hd1 1
  have c2 : W1.cell? ⟨b, 2, none⟩ = some (.int .i64 x) := blkCell hd1 2
  have g0 : W1.cell? ⟨fb, 0, none⟩ = some (.func (.func 85) #[] #[]) := blkCell hfo 0
  have HD1 := Lib.hid hd1
  have HF := Lib.hid hfo
  clear hc hob hc1 hd1 hfo
  cases q
  case false =>
    have HR : Hid (R = 1) := Lib.hid (by rw [HE.out]; rfl)
    go_wp2_with (go_at_call 90; refine (CN.out _).mono ?_; rintro e w2 ⟨rfl, he⟩; obtain rfl := he)
    go_ret
    exact ⟨by rw [HR.out]; rfl, D.out⟩
  case true =>
    cases d2 : decide (x < 0)
    case true =>
      have HR : Hid (R = 1) := Lib.hid (by rw [HE.out, d2]; rfl)
      go_wp2_with (go_at_call 90; refine (CN.out _).mono ?_; rintro e w2 ⟨rfl, he⟩; obtain rfl := he)
      go_ret
      exact ⟨by rw [HR.out]; rfl, D.out⟩
    case false =>
      cases q3
      case true =>
        have HR : Hid (R = 1) := Lib.hid (by rw [HE.out, d2]; rfl)
        go_wp2_with (go_at_call 90; refine (CN.out _).mono ?_; rintro e w2 ⟨rfl, he⟩; obtain rfl := he)
        go_ret
        exact ⟨by rw [HR.out]; rfl, D.out⟩
      case false =>
        have HR : Hid (R = if (!G) = true then 1 else 0) := Lib.hid (by rw [HE.out, d2]; rfl)
        cases G
        case false =>
          go_wp2_with (first
            | (go_at_call 90; refine (CN.out _).mono ?_; rintro e w2 ⟨rfl, he⟩; obtain rfl := he)
            | (go_at_call 85; refine (CG.out _ _ D.out HD1.out).mono ?_; rintro e w3 ⟨rfl, hc⟩; have D := Lib.hid (D.out.trans hc (fun _ h => h.elim)); clear hc))
          go_ret
          exact ⟨by rw [HR.out]; rfl, D.out⟩
        case true =>
          go_wp2_with (first
            | (go_at_call 90; refine (CN.out _).mono ?_; rintro e w2 ⟨rfl, he⟩; obtain rfl := he)
            | (go_at_call 85; refine (CG.out _ _ D.out HD1.out).mono ?_; rintro e w3 ⟨rfl, hc⟩; have D := Lib.hid (D.out.trans hc (fun _ h => h.elim)); have HD3 := Lib.hid (hc.obj HD1.out (fun h => h)); have g3 : w3.cell? ⟨fb, 3, none⟩ = some (.func (.func 88) #[] #[]) := blkCell (hc.obj HF.out (fun h => h)) 3; clear hc)
            | (go_at_call 88; refine (CZ.out _ _ HD3.out).mono ?_; rintro e w4 ⟨rfl, hz, hc⟩; have D := Lib.hid (D.out.trans hc (fun k e => .inr (by rw [e]; exact HBW.out))); have HD4 := Lib.hid hz; clear hz hc)
            | (refine wpList_load_row rfl 46 (.tmp 1) rfl b rfl 46 #[.int .i64 4, .int .i64 v, .int .i64 x, .slice none 0 0, .int .i64 0, .slice none 0 0, .int .i64 0, .slice none 0 0, .int .i64 0, .slice none 0 0, .int .i64 0, .slice none 0 0, .int .i64 0, .string ⟨#[]⟩, .string ⟨#[]⟩, .slice none 0 0, .string ⟨#[]⟩, .int .i64 0, .string ⟨#[]⟩, .int .i64 0, .string ⟨#[]⟩] (0, 0) _ HD4.out Tryz.underlying46 rfl docInfo ?_)
            | (go_at_call 91; refine (CE.out _).mono ?_; rintro e w5 ⟨rfl, hc⟩; have D := Lib.hid (D.out.trans hc (fun _ h => h.elim)); clear hc))
          go_ret
          exact ⟨by rw [HR.out]; rfl, D.out⟩
end Go.Proofs.YtmbipabiagdaaaaGreatDoor

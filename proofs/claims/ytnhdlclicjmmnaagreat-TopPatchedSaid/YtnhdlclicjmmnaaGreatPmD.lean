/- TopPatched: fetch's Open: an empty region; a region with a download. -/
import Derived.Test.YtnhdlclicjmmnaaGreatPmC
namespace Go.Proofs.YtnhdlclicjmmnaaGreat
open Go.RowKit Go.Lib Go.Shelf Go.Maps
/-- What Open's read leaves. -/
def OpenE (w0 w' : World) (f c d num last : Nat) (sec : List (List UInt8)) : Prop :=
  w0.heap.size ≤ f ∧ w'.heap[f]? = some (.cells (fetC c 0 0 0 ⟨#[]⟩ ⟨#[]⟩ (.slice none 0 0) (.slice none 0 0) (.slice none 0 0)) 85 (0, 0)) ∧ Cl w0 w' c d 0 100 num last [] ∧ Dv w0 w' d sec sec []
set_option maxHeartbeats 2000000 in
theorem fopen_calls (w0 w : World) (d num last : Nat) (M : Cont) (sec : List (List UInt8)) (hd : Dv w0 w d sec sec []) (hr : Rg sec num last M) (R : Nat → Nat → World → Prop)
    (C : ∀ (w2 : World) (f c mn : Nat) (cs : Array Value), w0.heap.size ≤ f → w2.heap[f]? = some (.cells (fetC c 0 0 0 ⟨#[]⟩ ⟨#[]⟩ (.slice none 0 0) (.slice none 0 0) (.slice none 0 0)) 85 (0, 0)) → w2.heap[c]? = some (.cells cs 115 (0, 0)) → cs[3]? = some (.map (some mn)) → MapAt w2 mn M → Cl w0 w2 c d 0 100 num last M → Dv w0 w2 d sec sec [] →
      Calls Tryz.prog 37 #[.pointer (some ⟨f, 0, none⟩)] w2 fun e w' => e = .returned (.tuple #[]) ∧ R f c w') :
    Calls Tryz.prog 11 #[.pointer (some ⟨d, 0, none⟩), .int .i64 0, .int .i64 100] w fun e w' => ∃ f c, e = .returned (.tuple #[.pointer (some ⟨f, 0, none⟩), .int .i64 0]) ∧ R f c w' := by
  obtain ⟨r1, r2, r, r3, r4⟩ := hr
  have CO := Lib.hid (Open_calls w0 w d 0 100 sec hd (by decide) (by decide) (by decide) (by rw [r1]; decide) (by rw [r1]; decide) r r3)
  rw [r4, show ((0 : Nat) : Int) = 0 from rfl, show ((100 : Nat) : Int) = 100 from rfl] at CO
  have HD := Lib.hid hd
  have HC := Lib.hid C
  clear hd C r3 r4
  go_enter Tryz.func11, Tryz.ntmps11
  go_wp2_with fail
  (with_reducible refine CO.out.mono ?_)
  rintro e w1 ⟨c, mn, mw, rfl, h1, h2, h3, h4, h5⟩
  have H1 := Lib.hid h1
  have H2 := Lib.hid h2
  have H3 := Lib.hid h3
  have H4 := Lib.hid h4
  have H5 := Lib.hid h5
  clear h1 h2 h3 h4 h5 CO
  go_wp2_with fail
  obtain ⟨f, hf⟩ : ∃ f, w1.heap.size = f := ⟨_, rfl⟩
  obtain ⟨W2, hW⟩ : ∃ W2, w1.alloc (.cells #[.pointer (some ⟨c, 0, none⟩), .int .i64 0, .int .i64 0, .int .i64 0, .string ⟨#[]⟩, .string ⟨#[]⟩, .slice none 0 0, .slice none 0 0, .slice none 0 0] 85) = W2 := ⟨_, rfl⟩
  have g2 : Chg (fun _ => False) w1 W2 := by rw [← hW]; exact (Chg.refl _ w1).alloc _
  have b2 : W2.heap[f]? = some (.cells (fetC c 0 0 0 ⟨#[]⟩ ⟨#[]⟩ (.slice none 0 0) (.slice none 0 0) (.slice none 0 0)) 85 (0, 0)) := by rw [← hW, ← hf]; exact blkAlloc w1 _
  rw [hW]
  try rw [hf]
  have hw0 : w0.heap.size ≤ w.heap.size := HD.out.chg0.size
  have hw1 : w.heap.size ≤ w1.heap.size := H5.out.size
  have gw : Chg (fun _ => False) w0 W2 := (HD.out.chg0.trans H5.out (fun _ h => h.elim)).trans g2 (fun _ h => h.elim)
  have dv2 : Dv w0 W2 d sec sec [] := Dv.kept (S := fun _ => False) HD.out (KeptT.of_chg (H5.out.trans g2 (fun _ h => h.elim))) (fun _ _ h => h) gw
  have m2 := H2.out.chg g2 (fun h => h)
  have c2 := g2.obj H1.out (fun h => h)
  have CR := Lib.hid (HC.out W2 f c mn _ (by omega) b2 c2 rfl m2 ⟨Nat.le_trans hw0 H3.out, gw, mn, mw, c2, m2, Nat.le_trans hw0 H4.out⟩ dv2)
  clear hW g2 b2 hw0 hw1 gw dv2 m2 c2 HC hf
  refine (CR.out).mono ?_
  rintro e w3 ⟨rfl, hr⟩
  have HR := Lib.hid hr
  clear hr CR
  go_wp2_with fail
  go_ret2
  exact ⟨f, c, rfl, HR.out⟩
theorem fopenE_calls (w0 w : World) (d num last : Nat) (sec : List (List UInt8)) (hd : Dv w0 w d sec sec []) (hr : Rg sec num last []) :
    Calls Tryz.prog 11 #[.pointer (some ⟨d, 0, none⟩), .int .i64 0, .int .i64 100] w fun e w' => ∃ f c, e = .returned (.tuple #[.pointer (some ⟨f, 0, none⟩), .int .i64 0]) ∧ OpenE w0 w' f c d num last sec :=
  fopen_calls w0 w d num last [] sec hd hr (fun f c w' => OpenE w0 w' f c d num last sec) fun w2 f c mn cs h1 h2 h3 h4 h5 h6 h7 =>
    (freadE_calls w2 f c mn 0 0 0 ⟨#[]⟩ ⟨#[]⟩ none none none 0 0 0 0 0 0 h2 cs h3 h4 h5).mono fun e w' ⟨he, q1, q2⟩ => by
      have kf := kept_f h2 q2
      have c2 : Chg (fun _ => False) w0 w' := h6.2.1.trans q2 (fun k e => .inr (by rw [e]; exact h1))
      exact ⟨he, h1, q1, h6.kept kf (by decide) c2, Dv.kept h7 kf (fun T h1 h2 => by subst h2; revert h1; unfold SDev; decide) c2⟩
theorem fopenD_calls (w0 w : World) (d num last : Nat) (v z cc : Int) (h t : ByteArray) (l : List ByteArray) (hv dv : List UInt8) (sec : List (List UInt8)) (hd : Dv w0 w d sec sec []) (hr : Rg sec num last (conM v z cc h t l hv dv)) (g : GoodB v z cc h t l) (q : Fit z l hv dv) :
    Calls Tryz.prog 11 #[.pointer (some ⟨d, 0, none⟩), .int .i64 0, .int .i64 100] w fun e w' => ∃ f c, e = .returned (.tuple #[.pointer (some ⟨f, 0, none⟩), .int .i64 0]) ∧ FS w0 w' f c d v z cc h t l hv dv num last sec :=
  fopen_calls w0 w d num last _ sec hd hr (fun f c w' => FS w0 w' f c d v z cc h t l hv dv num last sec) fun w2 f c mn cs h1 h2 h3 h4 h5 h6 h7 =>
    (fread_calls w2 f c mn 0 0 0 ⟨#[]⟩ ⟨#[]⟩ none none none 0 0 0 0 0 0 v z cc h t l hv dv h2 cs h3 h4 h5 g q.hl q.dl q.ok).mono fun e w' ⟨he, A, cap, r, gh, ch, gd, cd, s1, s2, s3, s4, s5, s6, s7, s8, s9, s10⟩ => by
      have kf := kept_f h2 s9
      have hz : w0.heap.size ≤ w2.heap.size := h6.2.1.size
      have c2 : Chg (fun _ => False) w0 w' := h6.2.1.trans s9 (fun k e => .inr (by rw [e]; exact h1))
      exact ⟨he, h1, ⟨A, cap, r, gh, ch, gd, cd, s1, s2, fun k e => Nat.le_trans hz (s3 k e), s4, s5, Nat.le_trans hz s6, Nat.le_trans hz s7, s8, s10⟩, h6.kept kf (by decide) c2, Dv.kept h7 kf (fun T h1 h2 => by subst h2; revert h1; unfold SDev; decide) c2, hr⟩
end Go.Proofs.YtnhdlclicjmmnaaGreat

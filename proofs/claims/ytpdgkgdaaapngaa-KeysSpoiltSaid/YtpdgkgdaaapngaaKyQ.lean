/- Keys: the document's first example, which every law asks first. -/
import Derived.Test.YtpdgkgdaaapngaaKyL
namespace Go.Proofs.Ytpdgkgdaaapngaa
open Go.RowKit
def seedS : ByteArray := ⟨#[115]⟩
def textA : ByteArray := ⟨#[97]⟩
theorem Chg.into {S : Nat → Prop} {w w1 : World} (h : Chg S w w1) (hs : ∀ k, S k → w.heap.size ≤ k) : Chg (fun _ => False) w w1 := h.mono (fun k hk => .inr (hs k hk))
set_option maxRecDepth 100000 in
set_option maxHeartbeats 4000000 in
theorem signs_calls (w : World) : Calls Try.prog 9 #[] w fun e w' => e = .returned (.bool true) ∧ Chg (fun _ => False) w w' := by
  have hp := sig_parts seedS textA 1 0 (by decide) (by decide)
  have hok := sig_ok seedS textA 1 0 (by decide) (by decide)
  have hv := sig_verified seedS textA 1 0 (by decide) (by decide)
  have hE : numE (sigK seedS 1 0 textA) = 0 := if_pos hok.1
  have C1 := Lib.hid (fun w => New_calls w seedS 1 (by decide))
  have C2 := Lib.hid (fun w b hk => Left_calls w b seedS 1 0 (by decide) (by decide) (by decide) hk)
  have C3 := Lib.hid (fun w b hk => Sign1_calls w b seedS textA 1 0 (by decide) (by decide) (by decide) (by decide) hk)
  have C4 := Lib.hid (fun w hs => Number_calls w (sigK seedS 1 0 textA) hs)
  have C5 := Lib.hid (fun w b hk => ID_calls w b seedS 1 1 (by decide) (by decide) hk)
  have C6 := Lib.hid (fun w hs => Verify_calls w (keyId seedS 1) textA (sigK seedS 1 0 textA) (by decide) hs)
  have C7 := Lib.hid (fun w b hk => Used_calls w b seedS 1 1 (by decide) (by decide) hk)
  obtain ⟨s, hs⟩ : ∃ s, sigK seedS 1 0 textA = s := ⟨_, rfl⟩
  obtain ⟨I, hI⟩ : ∃ I, keyId seedS 1 = I := ⟨_, rfl⟩
  have hz := hp.1
  have hn := hok.2
  rw [hs] at hz hn hv hE C3 C4 C6
  rw [hI] at hv C5 C6
  rw [hn, hE] at C4
  rw [hv] at C6
  have hz' : (s.size : Int) = 323 := by omega
  have hsl : s.size ≤ 140737488355328 := by omega
  have C4' := Lib.hid (fun w => C4.out w hsl)
  have C6' := Lib.hid (fun w => C6.out w hsl)
  clear hp hok hv hE hs hI hn C4 C6
  go_enter Try.func9, Try.ntmps9
  go_wp2_with (first
    | (go_at_call 17; refine (C1.out _).mono ?_; rintro e w1 ⟨b, rfl, hk1, hb1, hg1⟩; have HK1 := Lib.hid hk1; have HBB := Lib.hid hb1; have HG1 := Lib.hid hg1; clear hk1 hb1 hg1)
    | (go_at_call 19; refine (C2.out _ b HK1.out).mono ?_; rintro e w2 ⟨rfl, rfl⟩)
    | (go_at_call 18; refine (C3.out _ b HK1.out).mono ?_; rintro e w3 ⟨rfl, hk3, hg3⟩; have HK3 := Lib.hid hk3; have HG3 := Lib.hid (HG1.out.trans hg3 (fun k hk => .inr (by rw [hk]; exact HBB.out))); clear hk3 hg3)
    | (go_at_call 10; refine (C4'.out _).mono ?_; rintro e w4 ⟨rfl, hg4⟩; have HK4 := Lib.hid (HK3.out.chg hg4 (fun h => h) (Other.none _ _) (Other.none _ _)); have HG4 := Lib.hid (HG3.out.trans hg4 (fun _ h => h.elim)); clear hg4)
    | (go_at_call 21; refine (C5.out _ b HK4.out).mono ?_; rintro e w5 ⟨rfl, hk5, hg5⟩; have HK5 := Lib.hid hk5; have HG5 := Lib.hid (HG4.out.trans hg5 (fun k hk => .inr (by rw [hk]; exact HBB.out))); clear hk5 hg5)
    | (go_at_call 12; refine (C6'.out _).mono ?_; rintro e w6 ⟨rfl, hg6⟩; have HK6 := Lib.hid (HK5.out.chg hg6 (fun h => h) (Other.none _ _) (Other.none _ _)); have HG6 := Lib.hid (HG5.out.trans hg6 (fun _ h => h.elim)); clear hg6)
    | (go_at_call 20; refine (C7.out _ b HK6.out).mono ?_; rintro e w7 ⟨rfl, rfl⟩))
  go_ret
  exact ⟨rfl, HG6.out⟩
set_option maxRecDepth 100000 in
set_option maxHeartbeats 4000000 in
theorem KeysVerify_walk (id text sig : ByteArray) (w : World) (_hi : id.size ≤ 140737488351232) (ht : text.size ≤ 140737488351232) (hs : sig.size ≤ 140737488351232) :
    Calls Try.prog 3 #[.string id, .string text, .string sig] w fun e w' => e = .returned (.bool true) ∧ Chg (fun _ => False) w w' := by
  have hs2 : sig.size ≤ 140737488355328 := by omega
  have C1 := Lib.hid (fun w => Number_calls w sig hs2)
  have C2 := Lib.hid (fun w => rNumber_calls w sig hs2)
  have C3 := Lib.hid (fun w => Verify_calls w id text sig ht hs2)
  have C4 := Lib.hid (fun w => rVerify_calls w id text sig ht hs2)
  obtain ⟨V, hV⟩ : ∃ V, verF id text sig = V := ⟨_, rfl⟩
  obtain ⟨N, hN⟩ : ∃ N, numN sig = N := ⟨_, rfl⟩
  obtain ⟨E, hE⟩ : ∃ E, numE sig = E := ⟨_, rfl⟩
  simp only [hV, hN, hE] at C1 C2 C3 C4
  clear hV hN hE hs2 hs ht
  go_enter Try.func3, Try.ntmps3
  go_wp2_with (first
    | (go_at_call 9; refine (signs_calls _).mono ?_; rintro e w0 ⟨rfl, hg⟩; have G0 := Lib.hid hg; clear hg)
    | (go_at_call 10; refine (C1.out _).mono ?_; rintro e w1 ⟨rfl, hg⟩; have G1 := Lib.hid hg; clear hg)
    | (go_at_call 11; refine (C2.out _).mono ?_; rintro e w2 ⟨rfl, hg⟩; have G2 := Lib.hid hg; clear hg)
    | (go_at_call 12; refine (C3.out _).mono ?_; rintro e w3 ⟨rfl, hg⟩; have G3 := Lib.hid hg; clear hg)
    | (go_at_call 13; refine (C4.out _).mono ?_; rintro e w4 ⟨rfl, hg⟩; have G4 := Lib.hid hg; clear hg))
  go_ret
  exact ⟨rfl, (((G0.out.trans G1.out (fun _ h => .inl h)).trans G2.out (fun _ h => .inl h)).trans G3.out (fun _ h => .inl h)).trans G4.out (fun _ h => .inl h)⟩
end Go.Proofs.Ytpdgkgdaaapngaa

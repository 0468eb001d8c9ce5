/- The walk of OtsRecovers. -/
import Derived.Test.YtcdafblllikonaaOtH
import Derived.Test.YtcdafblllikonaaZr
namespace Go.Proofs.Ytcdafblllikonaa
open Go.RowKit
theorem info_u8z : (Try.prog.info? 5).map (fun i => (i.zero, i.size, i.bytes)) = some (some (.int .u8 0), 1, 1) := info_u8
set_option maxRecDepth 100000 in
set_option maxHeartbeats 1000000 in
theorem OtsRecovers_walk (n : Int) (text sig : ByteArray) (w : World) (ht : text.size ≤ 140737488351232) (hs : sig.size ≤ 140737488351232) :
    Calls Try.prog 4 #[.int .i64 n, .string text, .string sig] w fun e w' => e = .returned (.bool true) ∧ Chg (fun _ => False) w w' := by
  have C3 := Lib.hid (fun w (y : ByteArray) (hy : y.size ≤ 140737488355328) => Recover_calls w text y n ht hy)
  have C4 := Lib.hid (fun w (y : ByteArray) (hy : y.size ≤ 140737488355328) => rRecover_calls w text y n ht hy)
  obtain ⟨F, hF⟩ : ∃ F, recF n text = F := ⟨_, rfl⟩
  obtain ⟨E, hE⟩ : ∃ E, recE n = E := ⟨_, rfl⟩
  simp only [hF, hE] at C3 C4
  have HL : Hid (sig.size + 288 ≤ 140737488355328) := Lib.hid (by omega)
  have hs1 : sig.size ≤ 140737488355328 := by omega
  clear ht hs hF hE
  go_enter Try.func4, Try.ntmps4
  go_wp2_with (first
    | (go_at_call 7; refine (signs_calls _).mono ?_; rintro e w0 ⟨rfl, hg⟩; have G0 := Lib.hid hg; clear hg)
    | (go_at_call 12; refine (C3.out _ _ (by assumption)).mono ?_; rintro e w1 ⟨rfl, hg⟩; have G1 := Lib.hid hg; clear hg)
    | (go_at_call 13; refine (C4.out _ _ (by assumption)).mono ?_; rintro e w2 ⟨rfl, hg⟩; have G2 := Lib.hid hg; clear hg; try have hcv := run_bytes_of_string (P := Try.prog) w2 9 29 5 sig Try.underlying9 Try.underlying29 Try.underlying5)
    | (at_builtin; refine wpList_append_zs w2 rfl (.tmp 33) (.const (.int .i64 288)) 29 3 5 9 rfl Try.underlying29 Try.underlying3 Try.underlying5 Try.underlying9 info_u8z sig 288 rfl rfl (by decide) (by decide) HL.out ?_; intro g' c' w3 y hy hcy hg; have G3 := Lib.hid ((G0.out.trans G1.out (fun _ h => .inl h)).trans (G2.out.trans hg (fun _ h => .inl h)) (fun _ h => .inl h)); have hs2 : (y.extract 0 288).size ≤ 140737488355328 := (by rw [ByteArray.size_extract] <;> omega); clear hg hcv G0 G1 G2))
  go_ret
  exact ⟨rfl, (G3.out.trans G1.out (fun _ h => .inl h)).trans G2.out (fun _ h => .inl h)⟩
end Go.Proofs.Ytcdafblllikonaa

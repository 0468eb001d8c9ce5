/- The document's first example of layer 2, as every statement of the layer asks it first. -/
import Derived.Test.YtjlkflbkejpcaaaWr
namespace Go.Proofs.Ytjlkflbkejpcaaa
open Go.RowKit

/-- A writer that was made here, after some calls: nothing that was there has turned. -/
theorem Chg.made {w w1 : World} {o : Obj} {S : Nat → Prop} (h : Chg S (w.alloc o) w1) (hs : ∀ k, S k → w.heap.size ≤ k) : Chg (fun _ => False) w w1 :=
  ((Chg.refl (fun _ => False) w).alloc o).trans h fun k hk => .inr (hs k hk)
theorem WrAt.fresh (w : World) (T : TypeId) : WrAt (w.alloc (.cells #[.slice none 0 0, .bool false] T)) T w.heap.size none [] false :=
  ⟨none, 0, 0, blkAlloc w _, Row.nil _ _⟩

theorem laysW : (numW (wtextW (numW ([], false) 258 2) ⟨#[97, 98]⟩) 7 1) = ([1, 2, 0, 2, 97, 98, 7], false) := by decide
theorem lays_calls (w : World) : Calls Try.prog 11 #[] w fun e w' => e = .returned (.bool true) ∧ Chg (fun _ => False) w w' := by
  have h0 : WrAt (w.alloc (.cells #[.slice none 0 0, .bool false] 26)) 26 w.heap.size none (([], false) : WS).1 (([], false) : WS).2 := WrAt.fresh w 26
  have C1 := Lib.hid (wTwo_calls _ _ _ ([], false) 258 h0 (by simp))
  go_enter Try.func11, Try.ntmps11
  go_wp2_with fail
  refine (C1.out).mono ?_
  rintro e w1 ⟨rfl, r1, h1, n1, g1⟩
  have H1 := Lib.hid h1
  clear h1
  go_wp2_with fail
  refine (wText_calls _ _ _ _ ⟨#[97, 98]⟩ H1.out (by decide)).mono ?_
  rintro e w2 ⟨rfl, r2, h2, n2, g2⟩
  have H2 := Lib.hid h2
  clear h2
  go_wp2_with fail
  refine (wByte_calls _ _ _ _ 7 H2.out (by decide)).mono ?_
  rintro e w3 ⟨rfl, r3, h3, n3, g3⟩
  rw [laysW] at h3
  have H3 := Lib.hid h3
  clear h3
  go_wp2_with fail
  refine (wBytes_ok _ _ _ _ H3.out).mono ?_
  rintro e w4 ⟨rfl, rfl⟩
  have hs : strOf [1, 2, 0, 2, 97, 98, 7] = ⟨#[1, 2, 0, 2, 97, 98, 7]⟩ := rfl
  go_wp2
  go_ret
  have hg2 := Chg.two g1 n1 g2
  have hg3 := Chg.two hg2 (n1.trans n2 g1.size) g3
  exact ⟨rfl, Chg.made hg3 (fun k hk => hk.elim (fun e => Nat.le_of_eq e.symm) (fun e => by cases e))⟩

end Go.Proofs.Ytjlkflbkejpcaaa
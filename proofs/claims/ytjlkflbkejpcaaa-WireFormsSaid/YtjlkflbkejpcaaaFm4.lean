/- Sizes of asks and replies; the closure of WireForms. -/
import Derived.Test.YtjlkflbkejpcaaaFm3
import Derived.Test.YtjlkflbkejpcaaaNets
namespace Go.Proofs.Ytjlkflbkejpcaaa
open Go.RowKit

theorem askW_len (id : Int) (path : ByteArray) (fr most : Int) : (askW id path fr most).1.length ≤ path.size + 11 := by
  unfold askW
  have h1 := numW_len ([], false) 1 1
  have h2 := numW_len (numW ([], false) 1 1) id 2
  have h3 := wtextW_len (numW (numW ([], false) 1 1) id 2) path
  have h4 := numW_len (wtextW (numW (numW ([], false) 1 1) id 2) path) fr 4
  have h5 := numW_len (numW (wtextW (numW (numW ([], false) 1 1) id 2) path) fr 4) most 2
  simp only [List.length_nil] at h1
  omega
theorem bytesF_len (s : WS) : (bytesF s).1.size ≤ s.1.length := by
  unfold bytesF
  split
  · exact Nat.zero_le _
  · exact Nat.le_of_eq (strOf_size _)
theorem layAskF_size (a : AskV) : (layAskF a).1.size ≤ 100 := by
  unfold layAskF
  split
  · exact Nat.zero_le _
  · have h1 := bytesF_len a.w
    have h2 := askW_len a.id a.path a.fr a.most
    unfold AskV.w at h1 ⊢
    omega
theorem layRepF_size (r : RepV) : (layRepF r).1.size ≤ 100000 := by
  unfold layRepF
  split
  · by_cases hd : r.data.size ≤ 65535
    · have h := bytesF_len r.w
      have h1 := numW_len ([], false) 2 1
      have h2 := numW_len (numW ([], false) 2 1) r.id 2
      have h3 := numW_len (numW (numW ([], false) 2 1) r.id 2) r.err 1
      have h4 := numW_len (numW (numW (numW ([], false) 2 1) r.id 2) r.err 1) r.size 4
      have h5 := wtextW_len (numW (numW (numW (numW ([], false) 2 1) r.id 2) r.err 1) r.size 4) r.data
      simp only [List.length_nil] at h1
      unfold RepV.w at h ⊢
      omega
    · have h2 : ¬ fits r.data.size 2 := fun h3 => hd ((fits_size r.data).1 h3)
      have : r.w.2 = true := by
        unfold RepV.w wtextW
        simp only
        rw [numW, if_neg h2]
      unfold bytesF
      rw [if_pos this]
      exact Nat.zero_le _
  · exact Nat.zero_le _
theorem textF_len (x : RS) (m : Int) : (textF x m).1.size ≤ x.1.size := by
  obtain ⟨z, hz⟩ : ∃ z, (if (if m < 0 then 0 else m) < (numF x 2).1 then failF (numF x 2).2 4 else (numF x 2).2) = z := ⟨_, rfl⟩
  have h1 : z.1.size ≤ x.1.size := by
    rw [← hz]
    obtain ⟨mm, hmm⟩ : ∃ mm : Int, (if m < 0 then 0 else m) = mm := ⟨_, rfl⟩
    rw [hmm]
    split
    · rw [failF_left]; exact numF_size x 2
    · exact numF_size x 2
  have h2 := (rawF_size z (numF x 2).1).1
  unfold textF
  by_cases hx : x.2 ≠ 0
  · rw [if_pos hx]
    exact Nat.zero_le _
  · rw [if_neg hx]
    simp only [hz]
    exact Nat.le_trans h2 h1
theorem repF_size (s : ByteArray) : (readRepF s).1.data.size ≤ s.size := by
  have h : (readRepX s).2.1.data.size ≤ s.size := by
    unfold readRepX
    simp only
    have h1 := numF_size (s, 0) 1
    have h2 := numF_size (numF (s, 0) 1).2 2
    have h3 := numF_size (numF (numF (s, 0) 1).2 2).2 1
    have h4 := numF_size (numF (numF (numF (s, 0) 1).2 2).2 1).2 4
    have h5 := textF_len (numF (numF (numF (numF (s, 0) 1).2 2).2 1).2 4).2 65535
    simp only at h1
    omega
  unfold readRepF
  split
  · exact Nat.zero_le _
  · exact h
theorem again_ask {s : ByteArray} {x : AskV} (h : readAskF s = (x, 0)) : layAskF x = (s, 0) := by
  have h1 := (ask_back s (by rw [h])).1
  rw [h] at h1
  exact h1
theorem again_rep {s : ByteArray} {x : RepV} (h : readRepF s = (x, 0)) : layRepF x = (s, 0) := by
  have h1 := rep_back s (by rw [h])
  rw [h] at h1
  exact h1
theorem told_ask {s : ByteArray} {a : AskV} (h : layAskF a = (s, 0)) (hb : a.id ≤ 9223372036854775807 ∧ a.fr ≤ 9223372036854775807 ∧ a.most ≤ 9223372036854775807) : readAskF s = (a, 0) := by
  have h1 := ask_there a (by rw [h]) hb
  rw [h] at h1
  exact h1

set_option maxRecDepth 100000 in
theorem closure_calls (w : World) (bs ba : Nat) (s : ByteArray) (a : AskV) (hs : s.size ≤ 140737488351232) (hr : readAskF s = (a, 0)) (h1 : w.heap[bs]? = some (.cells #[.string s] 9 (0, 0))) (h2 : w.heap[ba]? = some (.cells #[.int .i64 a.id, .string a.path, .int .i64 a.fr, .int .i64 a.most] 75 (0, 0))) :
    Calls Try.prog 55 #[.pointer (some ⟨bs, 0, none⟩), .pointer (some ⟨ba, 0, none⟩)] w fun e w' => e = .returned (.bool true) ∧ Chg (fun _ => False) w w' := by
  have HR := Lib.hid hr
  have H2 := Lib.hid h2
  have s0 := blkCell h1 0
  simp only [List.getElem?_toArray, List.getElem?_cons_zero] at s0
  have hb := blkLt h2
  clear hr h1 h2
  go_enter Try.func55, Try.ntmps55
  go_wp2_with fail
  refine (ReadAsk_all _ s hs).mono ?_
  rw [HR.out]
  rintro e w1 ⟨rfl, hg⟩
  obtain ⟨x0, x1, x2, x3⟩ := askCells (hg.obj H2.out (fun h => h))
  have hb1 : ba < w1.heap.size := by have := hg.size; omega
  have HG := Lib.hid hg
  clear hg
  simp only [AskV.val]
  go_wp2
  go_ret
  exact ⟨rfl, HG.out.alloc _⟩
end Go.Proofs.Ytjlkflbkejpcaaa

/- One-time signatures: what a signature brings back is the public value; the walks of the laws. -/
import Derived.Test.YtcdafblllikonaaOtG
namespace Go.Proofs.Ytcdafblllikonaa
open Go.RowKit
theorem catL_congr (g g' : Nat → ByteArray) (n : Nat) (h : ∀ i, i < n → g i = g' i) : catL g n = catL g' n := by
  induction n with
  | zero => rfl
  | succ n ih => rw [catL, catL, ih (fun i hi => h i (by omega)), h n (by omega)]
theorem catF_congr {g g' : Nat → ByteArray} (h : ∀ i, i < 18 → g i = g' i) : catF g = catF g' := by
  show strOf (catL g 18) = strOf (catL g' 18)
  rw [catL_congr g g' 18 h]
theorem catL_part (g : Nat → ByteArray) (n : Nat) (hg : ∀ i, i < n → (g i).size = 16) (i : Nat) (hi : i < n) : ((catL g n).drop (16 * i)).take 16 = (g i).data.toList := by
  induction n with
  | zero => omega
  | succ n ih =>
    have hl := catL_len g n (fun i hi => hg i (by omega))
    have h2 : (g n).data.toList.length = 16 := by rw [Array.length_toList]; exact hg n (by omega)
    rw [catL]
    by_cases h : i < n
    · rw [List.drop_append_of_le_length (by omega), List.take_append_of_le_length (by rw [List.length_drop]; omega)]
      exact ih (fun i hi => hg i (by omega)) h
    · obtain rfl : i = n := by omega
      rw [List.drop_append, List.drop_eq_nil_of_le (by omega), hl, Nat.sub_self, List.drop_zero, List.nil_append, List.take_of_length_le (by omega)]
theorem catF_part (g : Nat → ByteArray) (hg : ∀ i, i < 18 → (g i).size = 16) (i : Nat) (hi : i < 18) : (catF g).extract (16 * i) (16 * i + 16) = g i := by
  apply ByteArray.ext
  apply Array.ext'
  rw [ByteArray.data_extract, Array.toList_extract]
  have := catL_part g 18 hg i hi
  simp only [catF, strOf, List.extract_eq_take_drop, show 16 * i + 16 - 16 * i = 16 from by omega]
  exact this
theorem rec_sig (seed : ByteArray) (n : Int) (ds : List Int) (hd : ∀ j, 0 ≤ ds.getD j 0 ∧ ds.getD j 0 ≤ 15) (i : Nat) (hi : i < 18) : recG n ds (catF (sigG seed n ds)) i = pubG seed n i := by
  have h := hd i
  rw [recG, catF_part _ (fun i _ => sigG_size seed n ds i) i hi, sigG]
  have h1 := chainF_add n i 0 (secretF seed n i) (ds.getD i 0).toNat (15 - ds.getD i 0).toNat
  rw [show (0 : Int) + ((ds.getD i 0).toNat : Int) = ds.getD i 0 from by omega, show (ds.getD i 0).toNat + (15 - ds.getD i 0).toNat = 15 from by omega] at h1
  exact h1
theorem back (seed text : ByteArray) (n : Int) (hn : 0 ≤ n ∧ n ≤ 65535) : recF n text (sigF seed n text) = pubF seed n ∧ recE n (sigF seed n text) = 0 ∧ (sigF seed n text).size = 288 ∧ (pubF seed n).size = 32 := by
  have hs : sigF seed n text = catF (sigG seed n (digF text)) := if_pos hn
  have hz : (sigF seed n text).size = 288 := by rw [hs]; exact catF_size _ (fun i _ => sigG_size seed n _ i)
  have hp : pubF seed n = tagF 35 [catF (pubG seed n)] := if_pos hn
  refine ⟨?_, ?_, hz, by rw [hp]; exact tagF_size _ _⟩
  · have hr : recF n text (sigF seed n text) = tagF 35 [catF (recG n (digF text) (sigF seed n text))] := if_pos ⟨hn.1, hn.2, hz⟩
    rw [hr, hp, hs]
    have : catF (recG n (digF text) (catF (sigG seed n (digF text)))) = catF (pubG seed n) := catF_congr (fun i hi => rec_sig seed n (digF text) (digF_range text) i hi)
    rw [this]
  · rw [recE, if_pos hn, if_pos hz]
theorem sig_small (seed text : ByteArray) (n : Int) : (sigF seed n text).size ≤ 140737488355328 := by
  by_cases hn : 0 ≤ n ∧ n ≤ 65535
  · rw [(back seed text n hn).2.2.1]
    omega
  · rw [show sigF seed n text = nilS from if_neg hn]
    decide
def seedS : ByteArray := ⟨#[115, 101, 101, 100]⟩
def textS : ByteArray := ⟨#[116, 101, 120, 116]⟩
set_option maxRecDepth 100000 in
set_option maxHeartbeats 1000000 in
theorem signs_calls (w : World) : Calls Try.prog 7 #[] w fun e w' => e = .returned (.bool true) ∧ Chg (fun _ => False) w w' := by
  obtain ⟨b1, b2, b3, b4⟩ := back seedS textS 3 ⟨by decide, by decide⟩
  have hE : fitE 3 = 0 := fitE_in ⟨by decide, by decide⟩
  have C1 := Lib.hid (Public_calls w seedS 3 (by decide))
  have C2 := Lib.hid (fun w => Sign_calls w seedS textS 3 (by decide) (by decide))
  have C3 := Lib.hid (fun w => Recover_calls w textS (sigF seedS 3 textS) 3 (by decide) (sig_small _ _ _))
  obtain ⟨p, hp⟩ : ∃ p, pubF seedS 3 = p := ⟨_, rfl⟩
  obtain ⟨g, hg⟩ : ∃ g, sigF seedS 3 textS = g := ⟨_, rfl⟩
  rw [hg] at b1 b2 b3 C3
  rw [hp] at b1 b4
  have b3' : (g.size : Int) = 288 := by omega
  have b4' : (p.size : Int) = 32 := by omega
  rw [hp, hE] at C1
  simp only [hg, hE] at C2
  simp only [b1, b2] at C3
  clear b1 b2 hE hp hg
  go_enter Try.func7, Try.ntmps7
  go_wp2_with (first
    | (go_at_call 8; refine (C1.out).mono ?_; rintro e w1 ⟨rfl, hg⟩; have G1 := Lib.hid hg; clear hg)
    | (go_at_call 10; refine (C2.out _).mono ?_; rintro e w2 ⟨rfl, hg⟩; have G2 := Lib.hid hg; clear hg)
    | (go_at_call 12; refine (C3.out _).mono ?_; rintro e w3 ⟨rfl, hg⟩; have G3 := Lib.hid hg; clear hg))
  go_ret
  exact ⟨rfl, (G1.out.trans G2.out (fun _ h => .inl h)).trans G3.out (fun _ h => .inl h)⟩
set_option maxRecDepth 100000 in
set_option maxHeartbeats 1000000 in
theorem OtsSigns_walk (seed text : ByteArray) (n : Int) (w : World) (hs : seed.size ≤ 140737488351232) (ht : text.size ≤ 140737488351232) :
    Calls Try.prog 3 #[.string seed, .int .i64 n, .string text] w fun e w' => e = .returned (.bool true) ∧ Chg (fun _ => False) w w' := by
  have C1 := Lib.hid (fun w => Public_calls w seed n hs)
  have C2 := Lib.hid (fun w => rPublic_calls w seed n hs)
  have C3 := Lib.hid (fun w => Sign_calls w seed text n hs ht)
  have C4 := Lib.hid (fun w => rSign_calls w seed text n hs ht)
  obtain ⟨p, hp⟩ : ∃ p, pubF seed n = p := ⟨_, rfl⟩
  obtain ⟨g, hg⟩ : ∃ g, sigF seed n text = g := ⟨_, rfl⟩
  obtain ⟨x, hx⟩ : ∃ x, fitE n = x := ⟨_, rfl⟩
  simp only [hp, hg, hx] at C1 C2 C3 C4
  clear hp hg hx hs ht
  go_enter Try.func3, Try.ntmps3
  go_wp2_with (first
    | (go_at_call 7; refine (signs_calls _).mono ?_; rintro e w1 ⟨rfl, hg⟩; have G0 := Lib.hid hg; clear hg)
    | (go_at_call 8; refine (C1.out _).mono ?_; rintro e w1 ⟨rfl, hg⟩; have G1 := Lib.hid hg; clear hg)
    | (go_at_call 9; refine (C2.out _).mono ?_; rintro e w1 ⟨rfl, hg⟩; have G2 := Lib.hid hg; clear hg)
    | (go_at_call 10; refine (C3.out _).mono ?_; rintro e w2 ⟨rfl, hg⟩; have G3 := Lib.hid hg; clear hg)
    | (go_at_call 11; refine (C4.out _).mono ?_; rintro e w3 ⟨rfl, hg⟩; have G4 := Lib.hid hg; clear hg))
  go_ret
  exact ⟨rfl, (((G0.out.trans G1.out (fun _ h => .inl h)).trans G2.out (fun _ h => .inl h)).trans G3.out (fun _ h => .inl h)).trans G4.out (fun _ h => .inl h)⟩
set_option maxRecDepth 100000 in
set_option maxHeartbeats 1000000 in
theorem OtsBack_walk (seed text : ByteArray) (n : Int) (w : World) (hs : seed.size ≤ 140737488351232) (ht : text.size ≤ 140737488351232) (hn : 0 ≤ n ∧ n ≤ 65535) :
    Calls Try.prog 5 #[.string seed, .int .u16 n, .string text] w fun e w' => e = .returned (.bool true) ∧ Chg (fun _ => False) w w' := by
  obtain ⟨b1, b2, b3, b4⟩ := back seed text n hn
  have hE : fitE n = 0 := fitE_in hn
  have C1 := Lib.hid (fun w => Public_calls w seed n hs)
  have C2 := Lib.hid (fun w => Sign_calls w seed text n hs ht)
  have C3 := Lib.hid (fun w => Recover_calls w text (sigF seed n text) n ht (sig_small _ _ _))
  obtain ⟨p, hp⟩ : ∃ p, pubF seed n = p := ⟨_, rfl⟩
  obtain ⟨g, hg⟩ : ∃ g, sigF seed n text = g := ⟨_, rfl⟩
  rw [hg] at b1 b2 b3
  rw [hp] at b1 b4
  have b3' : (g.size : Int) = 288 := by omega
  simp only [hp, hg, hE] at C1 C2 C3
  simp only [b1, b2] at C3
  clear b1 b2 hE hp hg hs ht
  obtain ⟨h0, h1⟩ := hn
  go_enter Try.func5, Try.ntmps5
  go_wp2_with (first
    | (go_at_call 7; refine (signs_calls _).mono ?_; rintro e w1 ⟨rfl, hg⟩; have G0 := Lib.hid hg; clear hg)
    | (go_at_call 8; refine (C1.out _).mono ?_; rintro e w1 ⟨rfl, hg⟩; have G1 := Lib.hid hg; clear hg)
    | (go_at_call 10; refine (C2.out _).mono ?_; rintro e w2 ⟨rfl, hg⟩; have G2 := Lib.hid hg; clear hg)
    | (go_at_call 12; refine (C3.out _).mono ?_; rintro e w3 ⟨rfl, hg⟩; have G3 := Lib.hid hg; clear hg))
  go_ret
  exact ⟨rfl, ((G0.out.trans G1.out (fun _ h => .inl h)).trans G2.out (fun _ h => .inl h)).trans G3.out (fun _ h => .inl h)⟩
end Go.Proofs.Ytcdafblllikonaa

/- ReadAsk and ReadReply of both, whole. -/
import Derived.Test.YtjlkflbkejpcaaaFm2
namespace Go.Proofs.Ytjlkflbkejpcaaa
open Go.RowKit
theorem readAsk_parts {s : ByteArray} {v1 v2 v4 v5 : Int} {v3 : ByteArray} {y1 y2 y3 y4 y5 : RS} (h1 : numF (s, 0) 1 = (v1, y1)) (h2 : numF y1 2 = (v2, y2)) (h3 : textF y2 64 = (v3, y3)) (h4 : numF y3 4 = (v4, y4)) (h5 : numF y4 2 = (v5, y5)) : readAskX s = (v1, ⟨v2, v3, v4, v5⟩, y5) := by
  unfold readAskX
  simp only [h1, h2, h3, h4, h5]
theorem readRep_parts {s : ByteArray} {v1 v2 v3 v4 : Int} {v5 : ByteArray} {y1 y2 y3 y4 y5 : RS} (h1 : numF (s, 0) 1 = (v1, y1)) (h2 : numF y1 2 = (v2, y2)) (h3 : numF y2 1 = (v3, y3)) (h4 : numF y3 4 = (v4, y4)) (h5 : textF y4 65535 = (v5, y5)) : readRepX s = (v1, ⟨v2, v3, v4, v5⟩, y5) := by
  unfold readRepX
  simp only [h1, h2, h3, h4, h5]
theorem ReadAsk_all (w : World) (s : ByteArray) (hs : s.size ≤ 140737488351232) :
    Calls Try.prog 51 #[.string s] w fun e w' => e = .returned (.tuple #[(readAskF s).1.val, .int .i64 (readAskF s).2]) ∧ Chg (fun _ => False) w w' := by
  obtain ⟨⟨v1, y1⟩, h1⟩ : ∃ p, numF (s, 0) 1 = p := ⟨_, rfl⟩
  obtain ⟨⟨v2, y2⟩, h2⟩ : ∃ p, numF y1 2 = p := ⟨_, rfl⟩
  obtain ⟨⟨v3, y3⟩, h3⟩ : ∃ p, textF y2 64 = p := ⟨_, rfl⟩
  obtain ⟨⟨v4, y4⟩, h4⟩ : ∃ p, numF y3 4 = p := ⟨_, rfl⟩
  obtain ⟨⟨v5, y5⟩, h5⟩ : ∃ p, numF y4 2 = p := ⟨_, rfl⟩
  have hX := readAsk_parts h1 h2 h3 h4 h5
  by_cases he : (endF y5).2 = 0
  · by_cases hk : v1 = 1
    · by_cases hp : v3.size = 0
      · have hF : readAskF s = (AskV.none, 3) := by
          unfold readAskF
          rw [hX]
          exact if_pos (.inr (.inr hp))
        rw [hF]
        exact ReadAsk_p w s hs v1 v2 v4 v5 v3 _ y1 y2 y3 y4 y5 h1 h2 h3 h4 h5 rfl (by simp [he]) (by simp [hk]) (str_eq hp)
      · have hF : readAskF s = (⟨v2, v3, v4, v5⟩, 0) := by
          unfold readAskF
          rw [hX]
          exact if_neg (fun h => h.elim (fun h => h he) (fun h => h.elim (fun h => h hk) (fun h => hp h)))
        rw [hF]
        exact ReadAsk_ok w s hs v1 v2 v4 v5 v3 _ y1 y2 y3 y4 y5 h1 h2 h3 h4 h5 rfl (by simp [he]) (by simp [hk]) (str_ne hp)
    · have hF : readAskF s = (AskV.none, 3) := by
        unfold readAskF
        rw [hX]
        exact if_pos (.inr (.inl hk))
      rw [hF]
      exact ReadAsk_k w s hs v1 v2 v4 v5 v3 _ y1 y2 y3 y4 y5 h1 h2 h3 h4 h5 rfl (by simp [he]) (by simp [hk])
  · have hF : readAskF s = (AskV.none, 3) := by
      unfold readAskF
      rw [hX]
      exact if_pos (.inl he)
    rw [hF]
    exact ReadAsk_e w s hs v1 v2 v4 v5 v3 _ y1 y2 y3 y4 y5 h1 h2 h3 h4 h5 rfl (by simp [he])
theorem rReadAsk_all (w : World) (s : ByteArray) (hs : s.size ≤ 140737488351232) :
    Calls Try.prog 52 #[.string s] w fun e w' => e = .returned (.tuple #[(readAskF s).1.val, .int .i64 (readAskF s).2]) ∧ Chg (fun _ => False) w w' := by
  obtain ⟨⟨v1, y1⟩, h1⟩ : ∃ p, numF (s, 0) 1 = p := ⟨_, rfl⟩
  obtain ⟨⟨v2, y2⟩, h2⟩ : ∃ p, numF y1 2 = p := ⟨_, rfl⟩
  obtain ⟨⟨v3, y3⟩, h3⟩ : ∃ p, textF y2 64 = p := ⟨_, rfl⟩
  obtain ⟨⟨v4, y4⟩, h4⟩ : ∃ p, numF y3 4 = p := ⟨_, rfl⟩
  obtain ⟨⟨v5, y5⟩, h5⟩ : ∃ p, numF y4 2 = p := ⟨_, rfl⟩
  have hX := readAsk_parts h1 h2 h3 h4 h5
  by_cases he : (endF y5).2 = 0
  · by_cases hk : v1 = 1
    · by_cases hp : v3.size = 0
      · have hF : readAskF s = (AskV.none, 3) := by
          unfold readAskF
          rw [hX]
          exact if_pos (.inr (.inr hp))
        rw [hF]
        exact rReadAsk_p w s hs v1 v2 v4 v5 v3 _ y1 y2 y3 y4 y5 h1 h2 h3 h4 h5 rfl (by simp [he]) (by simp [hk]) (str_eq hp)
      · have hF : readAskF s = (⟨v2, v3, v4, v5⟩, 0) := by
          unfold readAskF
          rw [hX]
          exact if_neg (fun h => h.elim (fun h => h he) (fun h => h.elim (fun h => h hk) (fun h => hp h)))
        rw [hF]
        exact rReadAsk_ok w s hs v1 v2 v4 v5 v3 _ y1 y2 y3 y4 y5 h1 h2 h3 h4 h5 rfl (by simp [he]) (by simp [hk]) (str_ne hp)
    · have hF : readAskF s = (AskV.none, 3) := by
        unfold readAskF
        rw [hX]
        exact if_pos (.inr (.inl hk))
      rw [hF]
      exact rReadAsk_k w s hs v1 v2 v4 v5 v3 _ y1 y2 y3 y4 y5 h1 h2 h3 h4 h5 rfl (by simp [he]) (by simp [hk])
  · have hF : readAskF s = (AskV.none, 3) := by
      unfold readAskF
      rw [hX]
      exact if_pos (.inl he)
    rw [hF]
    exact rReadAsk_e w s hs v1 v2 v4 v5 v3 _ y1 y2 y3 y4 y5 h1 h2 h3 h4 h5 rfl (by simp [he])
theorem ReadReply_all (w : World) (s : ByteArray) (hs : s.size ≤ 140737488351232) :
    Calls Try.prog 53 #[.string s] w fun e w' => e = .returned (.tuple #[(readRepF s).1.val, .int .i64 (readRepF s).2]) ∧ Chg (fun _ => False) w w' := by
  obtain ⟨⟨v1, y1⟩, h1⟩ : ∃ p, numF (s, 0) 1 = p := ⟨_, rfl⟩
  obtain ⟨⟨v2, y2⟩, h2⟩ : ∃ p, numF y1 2 = p := ⟨_, rfl⟩
  obtain ⟨⟨v3, y3⟩, h3⟩ : ∃ p, numF y2 1 = p := ⟨_, rfl⟩
  obtain ⟨⟨v4, y4⟩, h4⟩ : ∃ p, numF y3 4 = p := ⟨_, rfl⟩
  obtain ⟨⟨v5, y5⟩, h5⟩ : ∃ p, textF y4 65535 = p := ⟨_, rfl⟩
  have hX := readRep_parts h1 h2 h3 h4 h5
  by_cases he : (endF y5).2 = 0
  · by_cases hk : v1 = 2
    · by_cases hp : RepV.fair ⟨v2, v3, v4, v5⟩
      · have hF : readRepF s = (⟨v2, v3, v4, v5⟩, 0) := by
          unfold readRepF
          rw [hX]
          exact if_neg (fun h => h.elim (fun h => h he) (fun h => h.elim (fun h => h hk) (fun h => h hp)))
        rw [hF]
        exact ReadReply_ok w s hs v1 v2 v3 v4 v5 _ y1 y2 y3 y4 y5 h1 h2 h3 h4 h5 rfl (by simp [he]) (by simp [hk]) hp
      · have hF : readRepF s = (RepV.none, 3) := by
          unfold readRepF
          rw [hX]
          exact if_pos (.inr (.inr hp))
        rw [hF]
        exact ReadReply_p w s hs v1 v2 v3 v4 v5 _ y1 y2 y3 y4 y5 h1 h2 h3 h4 h5 rfl (by simp [he]) (by simp [hk]) hp
    · have hF : readRepF s = (RepV.none, 3) := by
        unfold readRepF
        rw [hX]
        exact if_pos (.inr (.inl hk))
      rw [hF]
      exact ReadReply_k w s hs v1 v2 v3 v4 v5 _ y1 y2 y3 y4 y5 h1 h2 h3 h4 h5 rfl (by simp [he]) (by simp [hk])
  · have hF : readRepF s = (RepV.none, 3) := by
      unfold readRepF
      rw [hX]
      exact if_pos (.inl he)
    rw [hF]
    exact ReadReply_e w s hs v1 v2 v3 v4 v5 _ y1 y2 y3 y4 y5 h1 h2 h3 h4 h5 rfl (by simp [he])
theorem rReadReply_all (w : World) (s : ByteArray) (hs : s.size ≤ 140737488351232) :
    Calls Try.prog 54 #[.string s] w fun e w' => e = .returned (.tuple #[(readRepF s).1.val, .int .i64 (readRepF s).2]) ∧ Chg (fun _ => False) w w' := by
  obtain ⟨⟨v1, y1⟩, h1⟩ : ∃ p, numF (s, 0) 1 = p := ⟨_, rfl⟩
  obtain ⟨⟨v2, y2⟩, h2⟩ : ∃ p, numF y1 2 = p := ⟨_, rfl⟩
  obtain ⟨⟨v3, y3⟩, h3⟩ : ∃ p, numF y2 1 = p := ⟨_, rfl⟩
  obtain ⟨⟨v4, y4⟩, h4⟩ : ∃ p, numF y3 4 = p := ⟨_, rfl⟩
  obtain ⟨⟨v5, y5⟩, h5⟩ : ∃ p, textF y4 65535 = p := ⟨_, rfl⟩
  have hX := readRep_parts h1 h2 h3 h4 h5
  by_cases he : (endF y5).2 = 0
  · by_cases hk : v1 = 2
    · by_cases hz : v3 = 0
      · have hF : readRepF s = (⟨v2, v3, v4, v5⟩, 0) := by
          unfold readRepF
          rw [hX]
          exact if_neg (fun h => h.elim (fun h => h he) (fun h => h.elim (fun h => h hk) (fun h => h (.inl hz))))
        rw [hF]
        exact rReadReply_ok1 w s hs v1 v2 v3 v4 v5 _ y1 y2 y3 y4 y5 h1 h2 h3 h4 h5 rfl (by simp [he]) (by simp [hk]) (by simp [hz])
      · by_cases hy : v4 = 0
        · by_cases hd : v5.size = 0
          · have hF : readRepF s = (⟨v2, v3, v4, v5⟩, 0) := by
              unfold readRepF
              rw [hX]
              exact if_neg (fun h => h.elim (fun h => h he) (fun h => h.elim (fun h => h hk) (fun h => h (.inr ⟨hy, hd⟩))))
            rw [hF]
            exact rReadReply_ok2 w s hs v1 v2 v3 v4 v5 _ y1 y2 y3 y4 y5 h1 h2 h3 h4 h5 rfl (by simp [he]) (by simp [hk]) (by simp [hz]) (by simp [hy]) (str_eq hd)
          · have hF : readRepF s = (RepV.none, 3) := by
              unfold readRepF
              rw [hX]
              exact if_pos (.inr (.inr (fun h => h.elim (fun h => hz h) (fun h => hd h.2))))
            rw [hF]
            exact rReadReply_p2 w s hs v1 v2 v3 v4 v5 _ y1 y2 y3 y4 y5 h1 h2 h3 h4 h5 rfl (by simp [he]) (by simp [hk]) (by simp [hz]) (by simp [hy]) (str_ne hd)
        · have hF : readRepF s = (RepV.none, 3) := by
            unfold readRepF
            rw [hX]
            exact if_pos (.inr (.inr (fun h => h.elim (fun h => hz h) (fun h => hy h.1))))
          rw [hF]
          exact rReadReply_p1 w s hs v1 v2 v3 v4 v5 _ y1 y2 y3 y4 y5 h1 h2 h3 h4 h5 rfl (by simp [he]) (by simp [hk]) (by simp [hz]) (by simp [hy])
    · have hF : readRepF s = (RepV.none, 3) := by
        unfold readRepF
        rw [hX]
        exact if_pos (.inr (.inl hk))
      rw [hF]
      exact rReadReply_k w s hs v1 v2 v3 v4 v5 _ y1 y2 y3 y4 y5 h1 h2 h3 h4 h5 rfl (by simp [he]) (by simp [hk])
  · have hF : readRepF s = (RepV.none, 3) := by
      unfold readRepF
      rw [hX]
      exact if_pos (.inl he)
    rw [hF]
    exact rReadReply_e w s hs v1 v2 v3 v4 v5 _ y1 y2 y3 y4 y5 h1 h2 h3 h4 h5 rfl (by simp [he])
end Go.Proofs.Ytjlkflbkejpcaaa

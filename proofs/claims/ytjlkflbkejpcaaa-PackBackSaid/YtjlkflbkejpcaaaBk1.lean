/- The walk of PackBack, one of its two cases. -/
import Derived.Test.YtjlkflbkejpcaaaFit
import Derived.Test.YtjlkflbkejpcaaaSm
import Derived.Test.YtjlkflbkejpcaaaPw0
namespace Go.Proofs.Ytjlkflbkejpcaaa
open Go.RowKit

/-- An operation as it may come in. -/
def OpV.fair (o : OpV) : Prop := o.n ≤ 9223372036854775807 ∧ o.s.size ≤ 140737488351232
theorem encAll_len (l : List OpV) (h : ∀ o ∈ l, fitOp o ∧ o.n ≤ 9223372036854775807) : (encAll l).length ≤ l.length * 65537 := by
  induction l with
  | nil => simp [encAll]
  | cons o l ih =>
    have e : encAll (o :: l) = encOp o ++ encAll l := by simp [encAll]
    have h1 := (enc_pos o (h o (by simp)).1).2
    have h2 := ih fun o' ho' => h o' (by simp [ho'])
    rw [e, List.length_append, List.length_cons, Nat.add_mul]
    omega
theorem encAll_snoc (l : List OpV) (o : OpV) : encAll (l ++ [o]) = encAll l ++ encOp o := by simp [encAll]
theorem strOf_init (l : List UInt8) : (strOf l).extract 0 ((strOf l).size - 1) = strOf l.dropLast := by
  apply strOf_ext
  rw [strOf_size]
  simp [strOf, List.dropLast_eq_take]
theorem need_fit (o : OpV) (h : fitOp o) : need o.k o.s ≤ 65535 := by
  unfold need
  unfold fitOp at h
  split
  · rename_i hk
    rcases hk with hk | hk <;> simp only [hk, Int.reduceEq, if_true, if_false] at h <;> omega
  · omega
theorem need_le (o : OpV) : need o.k o.s ≤ o.s.size := by unfold need; split <;> omega
theorem rlay_len2 (o : OpV) (h : fitOp o) : (rlayW ([], false) o.k o.n o.s).1.length ≤ 65545 := by
  unfold fitOp at h
  unfold rlayW
  split
  · have := numW_len ([], false) o.n 1; simp only [List.length_nil] at this; omega
  · rename_i h0
    rw [if_neg h0] at h
    split
    · have := numW_len ([], false) o.n 2; simp only [List.length_nil] at this; omega
    · rename_i h1
      rw [if_neg h1] at h
      split
      · have := numW_len ([], false) o.n 4; simp only [List.length_nil] at this; omega
      · rename_i h2
        rw [if_neg h2] at h
        split
        · have := numW_len ([], false) o.n 8; simp only [List.length_nil] at this; omega
        · rename_i h3
          rw [if_neg h3] at h
          split
          · rename_i h4
            rw [if_pos h4] at h
            unfold rtextW
            split
            · simp
            · unfold wtextW
              have := numW_len ([], false) o.s.size 2
              simp only [List.length_append, bsize, List.length_nil] at this ⊢
              omega
          · rename_i h4
            rw [if_neg h4] at h
            unfold rhashW
            split
            · simp
            · simp only [List.length_append, bsize, List.length_nil]
              omega
theorem S4.mem {b b2 : Nat} {r r2 : Option Nat} {k : Nat} (h : S4 b r b2 r2 k) {B : Nat} (h2 : B ≤ b2) (hr2 : ∀ k, r2 = some k → B ≤ k) : (k = b ∨ r = some k) ∨ B ≤ k := by
  rcases h with h | h | h
  · exact .inl h
  · exact .inr (h ▸ h2)
  · exact .inr (hr2 k h)
theorem FRow.ne {w : World} {v : Value} {r : Option Nat} {l : List OpV} (h : FRow w v r l) {g : Nat} {cs : Array Value} {t : TypeId} (hg : w.heap[g]? = some (.cells cs t (0, 0))) (hne : t ≠ 31) : r ≠ some g := by
  intro hk
  obtain ⟨_, cs', hh⟩ := h.lt hk
  rw [hg] at hh
  injection hh with hh
  injection hh with _ ht
  exact hne ht
/-- A row of operations and a writer share no block. -/
theorem FRow.apart {w : World} {v : Value} {r : Option Nat} {l : List OpV} {T b : Nat} {r2 : Option Nat} {bs : List UInt8} {sp : Bool} (h : FRow w v r l) (h2 : WrAt w T b r2 bs sp) (hT : T ≠ 31) : ∀ k, r = some k → ¬ (k = b ∨ r2 = some k) := by
  intro k hk e
  rcases e with rfl | e
  · obtain ⟨_, hh⟩ := h2.heap
    exact h.ne hh hT hk
  · obtain ⟨A, m, c, _, hrow⟩ := h2
    obtain ⟨_, cs, hh⟩ := hrow.lt e
    exact h.ne hh (by decide) hk
theorem WrAt.apart {w : World} {v : Value} {r : Option Nat} {l : List OpV} {T b : Nat} {r2 : Option Nat} {bs : List UInt8} {sp : Bool} (h : FRow w v r l) (h2 : WrAt w T b r2 bs sp) (hT : T ≠ 31) : r ≠ some b ∧ ∀ k, r2 = some k → r ≠ some k :=
  ⟨fun e => h.apart h2 hT b e (.inl rfl), fun k hk e => h.apart h2 hT k e (.inr hk)⟩

set_option maxRecDepth 100000 in
set_option maxHeartbeats 4000000 in
theorem PackBack_big (A : Option Addr) (l : List OpV) (c : Nat) (w : World) (hl : OpsIn w A l) (hc : l.length ≤ c) (hsm : ∀ o ∈ l, o.fair) (h5 : 300 < l.length) :
    Calls Try.prog 7 #[.slice A l.length c] w fun e w' => e = .returned (.bool true) ∧ Chg (fun _ => False) w w' := by
  have HL := Lib.hid hl
  have HSM := Lib.hid hsm
  clear hl hsm
  go_enter Try.func7, Try.ntmps7
  go_wp2_with (go_at_call 11; refine (lays_calls _).mono ?_; rintro e w1 ⟨rfl, g1⟩)
  have HW : Hid (WrAt (w1.alloc (.cells #[.slice none 0 0, .bool false] 26)) 26 w1.heap.size none [] false) := Lib.hid (WrAt.fresh w1 26)
  have GG := Lib.hid (g1.alloc (.cells #[.slice none 0 0, .bool false] 26))
  have B1 : Hid (w.heap.size ≤ w1.heap.size) := Lib.hid g1.size
  clear g1
  go_loopw [4, 18] (fun u v wr => ∃ (k : Nat) (r rf : Option Nat) (Af : Option Addr) (cf : Nat) (fl : List OpV), k ≤ 300 ∧ v = .int .i64 k ∧ u = .slice Af fl.length cf ∧ HD (WrAt wr 26 w1.heap.size r (encAll fl) false) ∧ HD (FRow wr (.slice Af fl.length cf) rf fl) ∧ HD (∀ o ∈ fl, (fitOp o ∧ o.n ≤ 9223372036854775807) ∧ o.ok) ∧ HD (fl.length ≤ k) ∧ HD ((∀ k, r = some k → w.heap.size ≤ k) ∧ (∀ k, rf = some k → w.heap.size ≤ k)) ∧ HD (Chg (fun _ => False) w wr)) (fun _ v _ => 300 - (intOf v).toNat)
  case atStart =>
    refine ⟨0, none, none, none, 0, [], Nat.zero_le _, rfl, rfl, ⟨HW.out⟩, ⟨FRow.nil _⟩, ⟨?_⟩, ⟨Nat.le_refl _⟩, ⟨?_⟩, ⟨GG.out⟩⟩
    · simp
    · simp
  case round =>
    clear HW GG
    obtain ⟨k, r, rf, Af, cf, fl, hk, rfl, rfl, HW, HF, HFIT, HLEN, HB, GG⟩ := hrel
    by_cases hlt : k < 300
    · obtain ⟨a, rfl, ha, hok⟩ := HL.out.get k (by omega)
      have hs0 := HSM.out (l[k]'(by omega)) (List.getElem_mem _)
      have ha2 := OpV.at_chg (o := l[k]'(by omega)) ha GG.out id
      obtain ⟨o, ho⟩ : ∃ o, l[k]'(by omega) = o := ⟨_, rfl⟩
      rw [ho] at ha2 hok hs0
      clear ho ha
      obtain ⟨c0, c1, c2⟩ := ha2
      have HOK := Lib.hid hok
      have HSO := Lib.hid hs0
      clear hok hs0
      have hk0 : k + 1 ≤ 300 := by omega
      have HK0 := Lib.hid hk0
      clear hk0
      have KB : Hid ((wr.alloc (.cells #[.int .u8 o.k, .int .i64 o.n, .string o.s] 31)).heap[wr.heap.size]? = some (.cells #[.int .u8 o.k, .int .i64 o.n, .string o.s] 31 (0, 0))) := Lib.hid (blkAlloc wr _)
      -- the three made in this round: the variable, the reference's writer, a writer to try on
      have G0 : Hid (Chg (fun _ => False) wr (((wr.alloc (.cells #[.int .u8 o.k, .int .i64 o.n, .string o.s] 31)).alloc (.cells #[.slice none 0 0, .bool false] 28)).alloc (.cells #[.slice none 0 0, .bool false] 26))) := Lib.hid ((((Chg.refl (fun _ => False) wr).alloc _).alloc _).alloc _)
      have HX : WrAt (((wr.alloc (.cells #[.int .u8 o.k, .int .i64 o.n, .string o.s] 31)).alloc (.cells #[.slice none 0 0, .bool false] 28)).alloc (.cells #[.slice none 0 0, .bool false] 26)) 28 (wr.heap.size + 1) none [] false := by
        have h := (WrAt.fresh (wr.alloc (.cells #[.int .u8 o.k, .int .i64 o.n, .string o.s] 31)) 28).chg ((Chg.refl (fun _ => False) _).alloc (.cells #[.slice none 0 0, .bool false] 26)) id (fun _ _ => id)
        simpa using h
      have HY : WrAt (((wr.alloc (.cells #[.int .u8 o.k, .int .i64 o.n, .string o.s] 31)).alloc (.cells #[.slice none 0 0, .bool false] 28)).alloc (.cells #[.slice none 0 0, .bool false] 26)) 26 (wr.heap.size + 1 + 1) none [] false := by
        have h := WrAt.fresh ((wr.alloc (.cells #[.int .u8 o.k, .int .i64 o.n, .string o.s] 31)).alloc (.cells #[.slice none 0 0, .bool false] 28)) 26
        simpa using h
      have HT : Hid (Two (((wr.alloc (.cells #[.int .u8 o.k, .int .i64 o.n, .string o.s] 31)).alloc (.cells #[.slice none 0 0, .bool false] 28)).alloc (.cells #[.slice none 0 0, .bool false] 26)) (wr.heap.size + 1 + 1) none ([], false) (wr.heap.size + 1) none ([], false)) := Lib.hid ⟨HY, HX, fun k hk => by cases hk⟩
      have KB3 : Hid ((((wr.alloc (.cells #[.int .u8 o.k, .int .i64 o.n, .string o.s] 31)).alloc (.cells #[.slice none 0 0, .bool false] 28)).alloc (.cells #[.slice none 0 0, .bool false] 26)).heap[wr.heap.size]? = some (.cells #[.int .u8 o.k, .int .i64 o.n, .string o.s] 31 (0, 0))) := Lib.hid (blkOld (blkOld KB.out _) _)
      clear HX HY
      go_wp2_with (fail)
      refine (lay_calls2 _ (wr.heap.size + 1 + 1) (wr.heap.size + 1) none none ([], false) ([], false) o.k o.n o.s HOK.out HSO.out.1 (by exact HT.out) (by have := HSO.out.2; have := need_le o; simp only [List.length_nil]; omega) (by have := HSO.out.2; have := need_le o; simp only [List.length_nil]; omega)).mono ?_
      rintro e w5 ⟨rfl, r', r2', h1, n1, n2, g⟩
      have G1 : Hid (Chg (fun k => wr.heap.size + 1 ≤ k) wr w5) := Lib.hid ((G0.out.mono (S' := fun k => wr.heap.size + 1 ≤ k) (fun _ hk => hk.elim)).trans g (fun k hk => .inl (by
        rcases hk with (rfl | h) | (rfl | h)
        · omega
        · cases h
        · omega
        · cases h)))
      have KB5 : Hid (w5.heap[wr.heap.size]? = some (.cells #[.int .u8 o.k, .int .i64 o.n, .string o.s] 31 (0, 0))) := Lib.hid (g.obj KB3.out (by
        rintro ((h | h) | (h | h))
        · omega
        · cases h
        · omega
        · cases h))
      have HT5 := Lib.hid h1
      have NN2 : Hid (∀ k, r2' = some k → wr.heap.size ≤ k) := Lib.hid (fun k hk => by rcases n2.mem hk with e | e; · cases e
                                                                                       · have : wr.heap.size ≤ wr.heap.size + 1 + 1 + 1 := by omega
                                                                                         simp at e; omega)
      have cB : w5.cell? ⟨wr.heap.size + 1, 1, none⟩ = some (.bool (!decide (fitOp o))) := by
        obtain ⟨A5, m5, c5, hh, _⟩ := h1.x
        rw [← rlay_bad o]
        exact blkCell hh 1
      have d0 := blkCell KB5.out 0
      have d1 := blkCell KB5.out 1
      have d2 := blkCell KB5.out 2
      have HW5 := Lib.hid (HW.out.chg G1.out (fun e => by have := HW.out.lt; omega) (fun k hk e => by have := HW.out.rlt hk; omega))
      have HF5 := Lib.hid (HF.out.chg G1.out (fun k hk e => by have := (HF.out.lt hk).1; omega))
      clear h1 n1 n2 g
      by_cases hfit : fitOp o
      · have hdb : decide (fitOp o) = true := decide_eq_true hfit
        have HFO := Lib.hid hfit
        have HT6 : Hid (Two w5 w1.heap.size r (encAll fl, false) (wr.heap.size + 1) r2' (rlayW ([], false) o.k o.n o.s)) := Lib.hid ⟨HW5.out, HT5.out.x, fun k hk hk2 => by have := NN2.out k hk2; have := HW.out.rlt hk; omega⟩
        have hfl := encAll_len fl (fun o' ho' => (HFIT.out o' ho').1)
        have HLE : Hid ((encAll fl).length + need o.k o.s + 8 ≤ 140737488355328 ∧ (rlayW ([], false) o.k o.n o.s).1.length + need o.k o.s + 8 ≤ 140737488355328) := Lib.hid (by
          have h1 := need_fit o hfit
          have h2 := rlay_len2 o hfit
          have h3 := HLEN.out
          have h4 : fl.length * 65537 ≤ 300 * 65537 := Nat.mul_le_mul_right _ (by have := HK0.out; omega)
          omega)
        clear hfit hfl
        go_wp2_with (fail)
        refine (lay_calls2 _ w1.heap.size (wr.heap.size + 1) r r2' (encAll fl, false) (rlayW ([], false) o.k o.n o.s) o.k o.n o.s HOK.out HSO.out.1 (by exact HT6.out) HLE.out.1 HLE.out.2).mono ?_
        rw [lay_fit (encAll fl) o HFO.out]
        rintro e w6 ⟨rfl, r6, r26, h1, n1, n2, g⟩
        have G2 : Hid (Chg (fun k => (k = w1.heap.size ∨ r = some k) ∨ wr.heap.size ≤ k) wr w6) := Lib.hid ((G1.out.mono (S' := fun k => (k = w1.heap.size ∨ r = some k) ∨ wr.heap.size ≤ k) (fun k hk => .inl (.inr (by omega)))).trans g (fun k hk => .inl (hk.mem (by omega) NN2.out)))
        have HW6 := Lib.hid h1.l
        have N6 : Hid (Next wr r r6) := Lib.hid (Next.trans (w := wr) (.inl rfl) n1 G1.out.size)
        have hap := HF5.out.apart HW5.out (by decide)
        have HF6 := Lib.hid (HF5.out.chg g (fun k hk e => by
          rcases e.mem (B := wr.heap.size) (by omega) NN2.out with e | e
          · exact hap k hk e
          · have := (HF.out.lt hk).1; omega))
        have KB6 : Hid (w6.heap[wr.heap.size]? = some (.cells #[.int .u8 o.k, .int .i64 o.n, .string o.s] 31 (0, 0))) := Lib.hid (g.obj KB5.out (by
          rintro ((e | e) | (e | e))
          · have := HW.out.lt; omega
          · have := HW.out.rlt e; omega
          · omega
          · obtain ⟨A5, m5, c5, hh, hrow⟩ := HT5.out.x
            exact (hrow.ne KB5.out (by decide)) e))
        have e0 := blkCell KB6.out 0
        have e1 := blkCell KB6.out 1
        have e2 := blkCell KB6.out 2
        clear h1 n1 n2 g hap d0 d1 d2 cB
        go_wp2_with (at_builtin; refine wpList_append_op w6 rfl (.tmp 37) (.tmp 39) 22 (.agg #[.int .u8 0, .int .i64 0, .string ⟨#[]⟩]) rfl rfl Try.underlying22 info_op (.slice Af fl.length cf) rf fl o rfl rfl HF6.out (by have := HLEN.out; have := HK0.out; omega) ?_; intro A7 c7 w7 r7 hrow hnext hgrow; have HROW := Lib.hid hrow; have HNEXT := Lib.hid hnext; have HGROW := Lib.hid hgrow; clear hrow hnext hgrow)
        have hc7 : Chg (fun k => rf = some k) w6 w7 := ((Chg.refl (fun k => rf = some k) w6).alloc _).grown HGROW.out (fun _ hk => .inl hk)
        have hap6 := WrAt.apart HF6.out HW6.out (by decide)
        refine ⟨⟨k + 1, r6, r7, A7, c7, fl ++ [o], by omega, by go_num, by simp, ⟨?_⟩, ⟨HROW.out⟩, ⟨?_⟩, ⟨?_⟩, ⟨⟨?_, ?_⟩⟩, ⟨?_⟩⟩, by simp [intOf]; omega⟩
        · rw [encAll_snoc]
          exact HW6.out.chg hc7 hap6.1 hap6.2
        · intro o' ho'
          rcases List.mem_append.1 ho' with h | h
          · exact HFIT.out o' h
          · obtain rfl : o' = o := by simpa using h
            exact ⟨⟨HFO.out, HSO.out.1⟩, HOK.out⟩
        · have := HLEN.out; simp; omega
        · exact N6.out.new HB.out.1 GG.out.size
        · exact HNEXT.out.new HB.out.2 (Nat.le_trans GG.out.size G2.out.size)
        · refine Chg.trans (w1 := w6) (GG.out.trans G2.out ?_) hc7 (fun k hk => .inr (HB.out.2 k hk))
          intro k hk
          refine .inr ?_
          rcases hk with (rfl | h) | h
          · exact B1.out
          · exact HB.out.1 k h
          · exact Nat.le_trans GG.out.size h
      · have hdb : decide (fitOp o) = false := decide_eq_false hfit
        clear hfit
        go_wp2
        refine ⟨⟨k + 1, r, rf, Af, cf, fl, by omega, by go_num, rfl, ⟨HW5.out⟩, ⟨HF5.out⟩, ⟨HFIT.out⟩, ⟨by have := HLEN.out; omega⟩, ⟨HB.out⟩, ⟨?_⟩⟩, by simp [intOf]; omega⟩
        exact GG.out.trans G1.out (fun k hk => .inr (by have := GG.out.size; omega))
    · have hfl := encAll_len fl (fun o' ho' => (HFIT.out o' ho').1)
      have HSZ : Hid ((encAll fl).length ≤ 140737488351232) := Lib.hid (by
        have h3 := HLEN.out
        have h4 : fl.length * 65537 ≤ 300 * 65537 := Nat.mul_le_mul_right _ (by omega)
        omega)
      have HOPS := Lib.hid (HF.out.ops (fun o ho => (HFIT.out o ho).2))
      have HS1 := Lib.hid (same_laid fl (fun o ho => (HFIT.out o ho).1))
      clear hfl
      by_cases hz : (encAll fl).length = 0
      · have hz2 : ((encAll fl).length : Int) = 0 := by omega
        have hz3 : (((strOf (encAll fl)).size : Int) == 0) = true := by rw [strOf_size]; simp [hz]
        clear hz hz2
        go_wp2_with (first
          | (go_at_call 13; refine (wBytes_ok _ _ _ _ (by exact HW.out)).mono ?_; rintro e w7 ⟨rfl, rfl⟩)
          | (go_at_call 36; refine (same_calls (strOf (encAll fl)) Af fl cf _ (by exact HOPS.out) (by rw [strOf_size]; exact HSZ.out)).mono ?_; rw [HS1.out]; rintro e w8 ⟨rfl, g8⟩))
        go_ret
        exact ⟨rfl, GG.out.trans g8 (fun _ hk => hk.elim)⟩
      · have hz3 : (((strOf (encAll fl)).size : Int) == 0) = false := by rw [strOf_size]; simp [hz]
        have hz4 : ((0 : Int)) ≤ ((strOf (encAll fl)).size : Int) - 1 := by rw [strOf_size]; omega
        have hz5 : ((strOf (encAll fl)).size : Int) - 1 ≤ ((strOf (encAll fl)).size : Int) := by omega
        have hz6 : (strOf (encAll fl)).size ≤ 140737488351232 := by rw [strOf_size]; exact HSZ.out
        have hne : fl ≠ [] := fun h => hz (by rw [h]; rfl)
        have HS2 := Lib.hid (same_cut fl (fun o ho => (HFIT.out o ho).1) hne)
        clear hz hne
        go_wp2_with (first
          | (go_at_call 13; refine (wBytes_ok _ _ _ _ (by exact HW.out)).mono ?_; rintro e w7 ⟨rfl, rfl⟩)
          | fail)
        refine (same_calls (strOf (encAll fl)) Af fl cf _ (by exact HOPS.out) (by rw [strOf_size]; exact HSZ.out)).mono ?_
        rw [HS1.out]
        rintro e w8 ⟨rfl, g8⟩
        have G8 := Lib.hid g8
        have HO8 : Hid (OpsIn w8 Af fl) := Lib.hid ((HF.out.chg g8 (fun _ _ => id)).ops (fun o ho => (HFIT.out o ho).2))
        clear g8
        go_wp2_with (fail)
        rw [strOf_init]
        refine (same_calls (strOf (encAll fl).dropLast) Af fl cf _ (by exact HO8.out) (by rw [strOf_size, List.length_dropLast]; have := HSZ.out; omega)).mono ?_
        rw [HS2.out]
        rintro e w9 ⟨rfl, g9⟩
        go_wp2
        go_ret
        exact ⟨rfl, (GG.out.trans G8.out (fun _ hk => hk.elim)).trans g9 (fun _ hk => hk.elim)⟩

end Go.Proofs.Ytjlkflbkejpcaaa
/- One-time signatures: Public, Sign, Recover. -/
import Derived.Test.YtpdgkgdaaapngaaOt5
import Derived.Test.YtpdgkgdaaapngaaOt6
import Derived.Test.YtpdgkgdaaapngaaOtE
namespace Go.Proofs.Ytpdgkgdaaapngaa
open Go.RowKit
def nilS : ByteArray := ⟨#[]⟩
/-- Is a number fit. -/
def pubF (seed : ByteArray) (n : Int) : ByteArray := if 0 ≤ n ∧ n ≤ 65535 then tagF 35 [catF (pubG seed n)] else nilS
def sigF (seed : ByteArray) (n : Int) (text : ByteArray) : ByteArray := if 0 ≤ n ∧ n ≤ 65535 then catF (sigG seed n (digF text)) else nilS
def recF (n : Int) (text sig : ByteArray) : ByteArray := if 0 ≤ n ∧ n ≤ 65535 ∧ sig.size = 288 then tagF 35 [catF (recG n (digF text) sig)] else nilS
def recE (n : Int) (sig : ByteArray) : Int := if 0 ≤ n ∧ n ≤ 65535 then (if sig.size = 288 then 0 else 3) else 1
theorem catF_size (g : Nat → ByteArray) (hg : ∀ i, i < 18 → (g i).size = 16) : (catF g).size = 288 := by
  rw [catF, strOf_size, catL_len g 18 hg]
theorem bulk35 (x : ByteArray) (h : x.size = 288) : 1 + bulk [x] ≤ 140737488355200 := by
  simp only [bulk, List.map_cons, List.map_nil, List.sum_cons, List.sum_nil]
  omega
set_option maxRecDepth 100000 in
set_option maxHeartbeats 1000000 in
theorem Public_calls (w : World) (seed : ByteArray) (n : Int) (hs : seed.size ≤ 140737488351232) :
    Calls Try.prog 65 #[.string seed, .int .i64 n] w fun e w' => e = .returned (.tuple #[.string (pubF seed n), .int .i64 (fitE n)]) ∧ Chg (fun _ => False) w w' := by
  have HS := Lib.hid hs
  clear hs
  have hmf : ∀ (fn : Fn) (first cap : Array Value) (w : World), (Instr.makeFunc fn first cap).run Try.prog w = .ok (.func fn first cap) w := fun _ _ _ _ => rfl
  obtain ⟨W, hW⟩ : ∃ W, (w.alloc (.cells #[.string seed] 9)).alloc (.cells #[.int .i64 n] 3) = W := ⟨_, rfl⟩
  have HG0 : Hid (Chg (fun _ => False) w W) := Lib.hid (by rw [← hW]; exact ((Chg.refl _ w).alloc _).alloc _)
  have HB1 : Hid (W.heap[w.heap.size]? = some (.cells #[.string seed] 9 (0, 0))) := Lib.hid (by rw [← hW]; exact blkOld (blkAlloc w _) _)
  have HB2 : Hid (W.heap[w.heap.size + 1]? = some (.cells #[.int .i64 n] 3 (0, 0))) := Lib.hid (by have := blkAlloc (w.alloc (.cells #[.string seed] 9)) (.cells #[.int .i64 n] 3); rw [hW] at this; simpa using this)
  have c1 : W.cell? ⟨w.heap.size, 0, none⟩ = some (.string seed) := blkCell HB1.out 0
  have c2 : W.cell? ⟨w.heap.size + 1, 0, none⟩ = some (.int .i64 n) := blkCell HB2.out 0
  by_cases hn : 0 ≤ n ∧ n ≤ 65535
  · have hp : pubF seed n = tagF 35 [catF (pubG seed n)] := if_pos hn
    have hE := fitE_in hn
    obtain ⟨h0, h1⟩ := hn
    rw [hp, hE]
    have HB := Lib.hid (bulk35 _ (catF_size (pubG seed n) (fun i _ => pubG_size seed n i)))
    go_enter Try.func65, Try.ntmps65
    go_wp2_with (first
      | (go_at_call 47; refine (fit_calls _ n).mono ?_; rintro e w1 ⟨rfl, rfl⟩; rw [hE])
      | (go_at_call 49; refine (allP_calls _ _ _ (pubG seed n) (fun i _ => pubG_size seed n i) (fun i hi w1 hg => pub1_calls w1 seed n (w.heap.size + 1) w.heap.size i HS.out h0 h1 hi (cellChg c2 hg (fun h => h)) (cellChg c1 hg (fun h => h)))).mono ?_; rintro e w2 ⟨rfl, hg⟩; have G1 := Lib.hid hg; clear hg)
      | (go_at_call 28; refine (Tag_calls _ 35 (by decide) _ 1 1 [catF (pubG seed n)] (strsAt (by simp) (by simp)) rfl HB.out).mono ?_; rintro e w3 ⟨rfl, hg⟩; have G2 := Lib.hid (Chg.un hg); clear hg))
    go_ret2
    exact ⟨rfl, (HG0.out.trans G1.out (fun _ h => .inl h)).trans G2.out (fun _ h => .inl h)⟩
  · have hp : pubF seed n = nilS := if_neg hn
    have hE := fitE_out hn
    rw [hp, hE]
    go_enter Try.func65, Try.ntmps65
    go_wp2_with (go_at_call 47; refine (fit_calls _ n).mono ?_; rintro e w1 ⟨rfl, rfl⟩; rw [hE])
    go_ret2
    exact ⟨rfl, HG0.out⟩
theorem digF_len (t : ByteArray) : (digF t).length = 18 := digA_len _
theorem digF_range (t : ByteArray) (j : Nat) : 0 ≤ (digF t).getD j 0 ∧ (digF t).getD j 0 ≤ 15 := digA_range _ (byteAt_range _) j
theorem dThere (w : World) (ds : List Int) (h : ds.length = 18) : (w.alloc (.cells (dcells []) 94)).there w.heap.size 0 (dcells ds).size := thereBlock (blkAlloc w _) _ (by rw [dcells_size _ (by omega), dcells_size _ (by simp)]; exact Nat.le_refl _)
theorem dWhole (w : World) (ds : List Int) (h : ds.length = 18) : ((w.alloc (.cells (dcells []) 94)).setCells w.heap.size 0 (dcells ds).toList).heap[w.heap.size]? = some (.cells (dcells ds) 94 (0, 0)) := setCells_whole (blkAlloc w _) (by rw [dcells_size _ (by omega), dcells_size _ (by simp)])
theorem dChg (w : World) (ds : List Int) : Chg (fun _ => False) w ((w.alloc (.cells (dcells []) 94)).setCells w.heap.size 0 (dcells ds).toList) :=
  ((Chg.refl _ w).alloc _).trans (Chg.setCells (dcells ds).toList 0 _ (Chg.refl (fun k => k = w.heap.size) _)) (fun k e => .inr (by omega))
theorem dInfo (ds : List Int) (h : ds.length = 18) : (Try.prog.info? 94).map (·.size) = some (dcells ds).size := by
  rw [dcells_size _ (by omega)]
  kernel_rfl
set_option maxRecDepth 100000 in
set_option maxHeartbeats 1000000 in
theorem Sign_calls (w : World) (seed text : ByteArray) (n : Int) (hs : seed.size ≤ 140737488351232) (ht : text.size ≤ 140737488351232) :
    Calls Try.prog 59 #[.string seed, .int .i64 n, .string text] w fun e w' => e = .returned (.tuple #[.string (sigF seed n text), .int .i64 (fitE n)]) ∧ Chg (fun _ => False) w w' := by
  have HS := Lib.hid hs
  have HX := Lib.hid ht
  clear hs ht
  have hmf : ∀ (fn : Fn) (first cap : Array Value) (w : World), (Instr.makeFunc fn first cap).run Try.prog w = .ok (.func fn first cap) w := fun _ _ _ _ => rfl
  obtain ⟨W, hW⟩ : ∃ W, (w.alloc (.cells #[.string seed] 9)).alloc (.cells #[.int .i64 n] 3) = W := ⟨_, rfl⟩
  have HG0 : Hid (Chg (fun _ => False) w W) := Lib.hid (by rw [← hW]; exact ((Chg.refl _ w).alloc _).alloc _)
  have HB1 : Hid (W.heap[w.heap.size]? = some (.cells #[.string seed] 9 (0, 0))) := Lib.hid (by rw [← hW]; exact blkOld (blkAlloc w _) _)
  have HB2 : Hid (W.heap[w.heap.size + 1]? = some (.cells #[.int .i64 n] 3 (0, 0))) := Lib.hid (by have := blkAlloc (w.alloc (.cells #[.string seed] 9)) (.cells #[.int .i64 n] 3); rw [hW] at this; simpa using this)
  have c1 : W.cell? ⟨w.heap.size, 0, none⟩ = some (.string seed) := blkCell HB1.out 0
  have c2 : W.cell? ⟨w.heap.size + 1, 0, none⟩ = some (.int .i64 n) := blkCell HB2.out 0
  by_cases hn : 0 ≤ n ∧ n ≤ 65535
  · have hp : sigF seed n text = catF (sigG seed n (digF text)) := if_pos hn
    have hE := fitE_in hn
    obtain ⟨h0, h1⟩ := hn
    rw [hp, hE]
    go_enter Try.func59, Try.ntmps59
    go_wp2_with (first
      | (go_at_call 47; refine (fit_calls _ n).mono ?_; rintro e w1 ⟨rfl, rfl⟩; rw [hE])
      | (go_at_call 48; refine (digits_calls _ text HX.out).mono ?_; rintro e w2 ⟨rfl, hg⟩; have G1 := Lib.hid hg; have HT := Lib.hid (dThere w2 _ (digF_len text)); have HI := Lib.hid (dInfo _ (digF_len text)); clear hg)
      | (refine wpList_store_mid rfl 94 (.tmp 9) (.tmp 16) rfl w2.heap.size 0 (dcells (digF text)) rfl rfl (by exact HT.out) HI.out (dcells_one _) ?_; obtain ⟨w4, hw4⟩ : ∃ w4, (w2.alloc (.cells (dcells []) 94)).setCells w2.heap.size 0 (dcells (digF text)).toList = w4 := ⟨_, rfl⟩; have HD4 := Lib.hid (dWhole w2 _ (digF_len text)); have G4 := Lib.hid (dChg w2 (digF text)); rw [hw4] at HD4 G4; change wpList _ _ _ _ _ ((w2.alloc (.cells (dcells []) 94)).setCells w2.heap.size 0 (dcells (digF text)).toList); rw [hw4]; have G5 := Lib.hid (G1.out.trans G4.out (fun _ h => .inl h)); have d1 := cellChg c1 G5.out (fun h => h); have d2 := cellChg c2 G5.out (fun h => h); clear hw4)
      | (go_at_call 49; refine (allS_calls _ _ _ _ (sigG seed n (digF text)) (fun i _ => sigG_size seed n _ i) (fun i hi w1 hg => sig1_calls w1 seed n (digF text) (w.heap.size + 1) w2.heap.size w.heap.size i HS.out h0 h1 hi (digF_range text i) (cellChg d2 hg (fun h => h)) (dAt (hg.obj HD4.out (fun h => h)) i (by rw [digF_len]; exact hi)) (cellChg d1 hg (fun h => h)))).mono ?_; rintro e w6 ⟨rfl, hg⟩; have G6 := Lib.hid hg; clear hg))
    go_ret2
    exact ⟨rfl, (HG0.out.trans G5.out (fun _ h => .inl h)).trans G6.out (fun _ h => .inl h)⟩
  · have hp : sigF seed n text = nilS := if_neg hn
    have hE := fitE_out hn
    rw [hp, hE]
    go_enter Try.func59, Try.ntmps59
    go_wp2_with (go_at_call 47; refine (fit_calls _ n).mono ?_; rintro e w1 ⟨rfl, rfl⟩; rw [hE])
    go_ret2
    exact ⟨rfl, HG0.out⟩
theorem recG_size (n : Int) (ds : List Int) (sig : ByteArray) (hs : sig.size = 288) (i : Nat) (hi : i < 18) : (recG n ds sig i).size = 16 := chainF_size _ _ _ _ (by rw [ByteArray.size_extract]; omega) _
set_option maxRecDepth 100000 in
set_option maxHeartbeats 1000000 in
theorem Recover_calls (w : World) (text sig : ByteArray) (n : Int) (ht : text.size ≤ 140737488351232) (_hs : sig.size ≤ 140737488355328) :
    Calls Try.prog 27 #[.int .i64 n, .string text, .string sig] w fun e w' => e = .returned (.tuple #[.string (recF n text sig), .int .i64 (recE n sig)]) ∧ Chg (fun _ => False) w w' := by
  have HX := Lib.hid ht
  clear ht
  have hmf : ∀ (fn : Fn) (first cap : Array Value) (w : World), (Instr.makeFunc fn first cap).run Try.prog w = .ok (.func fn first cap) w := fun _ _ _ _ => rfl
  obtain ⟨W, hW⟩ : ∃ W, (w.alloc (.cells #[.int .i64 n] 3)).alloc (.cells #[.string sig] 9) = W := ⟨_, rfl⟩
  have HG0 : Hid (Chg (fun _ => False) w W) := Lib.hid (by rw [← hW]; exact ((Chg.refl _ w).alloc _).alloc _)
  have HB1 : Hid (W.heap[w.heap.size]? = some (.cells #[.int .i64 n] 3 (0, 0))) := Lib.hid (by rw [← hW]; exact blkOld (blkAlloc w _) _)
  have HB2 : Hid (W.heap[w.heap.size + 1]? = some (.cells #[.string sig] 9 (0, 0))) := Lib.hid (by have := blkAlloc (w.alloc (.cells #[.int .i64 n] 3)) (.cells #[.string sig] 9); rw [hW] at this; simpa using this)
  have c1 : W.cell? ⟨w.heap.size, 0, none⟩ = some (.int .i64 n) := blkCell HB1.out 0
  have c2 : W.cell? ⟨w.heap.size + 1, 0, none⟩ = some (.string sig) := blkCell HB2.out 0
  by_cases hn : 0 ≤ n ∧ n ≤ 65535
  · have hE := fitE_in hn
    by_cases hz : sig.size = 288
    · have hp : recF n text sig = tagF 35 [catF (recG n (digF text) sig)] := if_pos ⟨hn.1, hn.2, hz⟩
      have he : recE n sig = 0 := by rw [recE, if_pos hn, if_pos hz]
      obtain ⟨h0, h1⟩ := hn
      rw [hp, he]
      have HB := Lib.hid (bulk35 _ (catF_size (recG n (digF text) sig) (recG_size n _ sig hz)))
      go_enter Try.func27, Try.ntmps27
      go_wp2_with (first
        | (go_at_call 47; refine (fit_calls _ n).mono ?_; rintro e w1 ⟨rfl, rfl⟩; rw [hE])
        | (go_at_call 48; refine (digits_calls _ text HX.out).mono ?_; rintro e w2 ⟨rfl, hg⟩; have G1 := Lib.hid hg; have HT := Lib.hid (dThere w2 _ (digF_len text)); have HI := Lib.hid (dInfo _ (digF_len text)); clear hg)
        | (refine wpList_store_mid rfl 94 (.tmp 9) (.tmp 19) rfl w2.heap.size 0 (dcells (digF text)) rfl rfl (by exact HT.out) HI.out (dcells_one _) ?_; obtain ⟨w4, hw4⟩ : ∃ w4, (w2.alloc (.cells (dcells []) 94)).setCells w2.heap.size 0 (dcells (digF text)).toList = w4 := ⟨_, rfl⟩; have HD4 := Lib.hid (dWhole w2 _ (digF_len text)); have G4 := Lib.hid (dChg w2 (digF text)); rw [hw4] at HD4 G4; change wpList _ _ _ _ _ ((w2.alloc (.cells (dcells []) 94)).setCells w2.heap.size 0 (dcells (digF text)).toList); rw [hw4]; have G5 := Lib.hid (G1.out.trans G4.out (fun _ h => .inl h)); have d1 := cellChg c1 G5.out (fun h => h); have d2 := cellChg c2 G5.out (fun h => h); clear hw4)
        | (go_at_call 49; refine (allR_calls _ _ _ _ (recG n (digF text) sig) (recG_size n _ sig hz) (fun i hi w1 hg => rec1_calls w1 sig n (digF text) w.heap.size w2.heap.size (w.heap.size + 1) i hz h0 h1 hi (digF_range text i) (cellChg d1 hg (fun h => h)) (dAt (hg.obj HD4.out (fun h => h)) i (by rw [digF_len]; exact hi)) (cellChg d2 hg (fun h => h)))).mono ?_; rintro e w6 ⟨rfl, hg⟩; have G6 := Lib.hid hg; clear hg)
        | (go_at_call 28; refine (Tag_calls _ 35 (by decide) _ 1 1 [catF (recG n (digF text) sig)] (strsAt (by simp) (by simp)) rfl HB.out).mono ?_; rintro e w7 ⟨rfl, hg⟩; have G7 := Lib.hid (Chg.un hg); clear hg))
      go_ret2
      exact ⟨rfl, ((HG0.out.trans G5.out (fun _ h => .inl h)).trans G6.out (fun _ h => .inl h)).trans G7.out (fun _ h => .inl h)⟩
    · have hp : recF n text sig = nilS := if_neg (fun h => hz h.2.2)
      have he : recE n sig = 3 := by rw [recE, if_pos hn, if_neg hz]
      rw [hp, he]
      have hzi : ¬ (sig.size : Int) = 288 := by omega
      go_enter Try.func27, Try.ntmps27
      go_wp2_with (go_at_call 47; refine (fit_calls _ n).mono ?_; rintro e w1 ⟨rfl, rfl⟩; rw [hE])
      go_ret2
      exact ⟨rfl, HG0.out⟩
  · have hp : recF n text sig = nilS := if_neg (fun h => hn ⟨h.1, h.2.1⟩)
    have hE := fitE_out hn
    have he : recE n sig = 1 := if_neg hn
    rw [hp, he]
    go_enter Try.func27, Try.ntmps27
    go_wp2_with (go_at_call 47; refine (fit_calls _ n).mono ?_; rintro e w1 ⟨rfl, rfl⟩; rw [hE])
    go_ret2
    exact ⟨rfl, HG0.out⟩
end Go.Proofs.Ytpdgkgdaaapngaa

/- TopPatched: a range over a function that yields N known values, without breaks; a region that draws its order, in a round. -/
import Derived.RangeFuncNested
import Derived.RangeFuncBound
import Derived.RangeFuncCalls
import Derived.RangeFuncLeaves
import Derived.OwnWalkIn
import Derived.OrdersIn
import Derived.Deep.RegionHeld3
import Derived.Test.YtnhdlclicjmmnaaGreatHq
import Derived.Test.YtnhdlclicjmmnaaGreatTjR
import Derived.Test.YtnhdlclicjmmnaaGreatPgB
import Derived.Shelf.Abstract
import Derived.Shelf.RegionOpen
import Derived.TacticsInMore
import Derived.LoopNIn
import Derived.LoopIn
import Derived.Test.YtnhdlclicjmmnaaGreatPdE
import Derived.Test.YtnhdlclicjmmnaaGreatTjX
namespace Go.Proofs.YtnhdlclicjmmnaaGreat
open Go.RowKit
/-- How a round ends. -/
def RoundN (D l : Nat) (I : World → Prop) (W : World) : Exit → Act → World → Prop
  | .normal, _, W' => (W'.heap[l]? = W.heap[l]? ∧ W'.heap[D]? = W.heap[D]?) ∧ I W'
  | _, _, _ => False
section
variable {F : Fence} {n : Nat} {P : Program}
theorem wpIn_range_cnt {g : Operand} {ps : Array Tmp} {assign body : Code} {Q : Exit → Act → World → Prop} {a : Act} {w : World}
    (hro : F.round = none) (h1 : 1 ≤ n) {gf : Nat} {lb : Array Value} (hg : a.eval g = .func (.func gf) #[] lb) (hFg : F.fn gf) (eg : ∀ args w, (callFunc gf args).run P w = .ok (.enter gf args) w)
    (N : Nat) (xs : Nat → Value) (hps : ps.size = 1) (St : World → Prop)
    (hseq : ∀ (l : Nat) (J : Nat → World → Prop) (W : World), (∀ k W, J k W → St W) → (∀ k W, J k W → J k W.drew) →
      (∀ (k : Nat) (W1 : World), k < N → J k W1 → YieldAt F (n - 1 - 1) P l #[xs k] W1 fun e W' => e = .returned (.bool true) ∧ J (k + 1) W') →
      J 0 W → CallsIn F (n - 1) P gf (#[.func (.yield l) #[] #[]] ++ lb) W fun e W' => (∃ v, e = .returned v) ∧ J N W')
    (I : Nat → World → Prop) (hISt : ∀ k W, I k W → St W) (hId : ∀ k W, I k W → I k W.drew) (hIa : ∀ o o', I 0 ((w.alloc o).alloc o')) (hIp : ∀ k W o, I k W → I k (W.putObj (w.heap.size + 1) o))
    (a₁ : Nat → Act)
    (hassign : ∀ (l k : Nat) (W : World) (K : Act → World → Prop), k < N → K (a₁ k) W →
      assign.wpIn (F.inRound l) (n - 1 - 1) P (Exit.then K (fun _ _ _ => False)) { tmps := (ps.zip #[xs k]).foldl (fun t (p, v) => t.setIfInBounds p v) a.tmps, defers := [] } W)
    (hbody : ∀ (l k : Nat) (W : World), k < N → w.heap.size + 1 < W.heap.size → I k W → body.wpIn (F.inRound l) (n - 1 - 1) P (RoundN w.heap.size (w.heap.size + 1) (I (k + 1)) W) (a₁ k) W)
    (hdone : ∀ (W : World), I N W → W.heap[w.heap.size]? = some (.deferred (some [])) → Q .normal { a with defers := { target := .collected w.heap.size, args := #[] } :: a.defers } W) :
    (Code.rangeFunc g ps assign body).wpIn F n P Q a w := by
  refine wpIn_rangeFunc ?_
  intro fn hfn
  rw [hro]
  obtain ⟨rc, hrc⟩ : ∃ rc : LoopState → Option Code → Loop, rc = fun st pe => { state := st, pending := pe, fn, tmps := a.tmps, params := ps, assign, body, defers := w.heap.size } := ⟨_, rfl⟩
  obtain ⟨W1, hW1⟩ : ∃ W1, (w.alloc (.deferred (some []))).alloc (.loop (rc .ready none)) = W1 := ⟨_, rfl⟩
  have hl1 : W1.heap[w.heap.size + 1]? = some (.loop (rc .ready none)) := by
    rw [← hW1]
    have := blkAlloc (w.alloc (.deferred (some []))) (.loop (rc .ready none))
    rwa [World.size_alloc] at this
  have hd1 : W1.heap[w.heap.size]? = some (.deferred (some [])) := by
    rw [← hW1]
    exact blkOld (blkAlloc w _) _
  have hi1 : I 0 W1 := by rw [← hW1]; exact hIa _ _
  refine ⟨w.heap.size + 1, [{ target := .collected w.heap.size, args := #[] }], W1, { target := .fn (.func gf) lb, args := #[.func (.yield (w.heap.size + 1)) #[] #[]] }, W1, gf,
    #[.func (.yield (w.heap.size + 1)) #[] #[]] ++ lb, W1, ?_, ?_, ?_, ?_, fun _ => h1, ?_⟩
  · rw [← hW1, hrc]
    exact run_enterLoop_outer _ _ _ _ _
  · simp only [resolve, hg]
    simp [go_sem]
  · intro f' hf'
    simp [Target.leads] at hf'
    subst hf'
    exact hFg
  · simp [invoke, go_sem, eg]
  · refine (hseq (w.heap.size + 1)
      (fun k W => I k W ∧ W.heap[w.heap.size + 1]? = some (.loop (rc .ready none)) ∧ W.heap[w.heap.size]? = some (.deferred (some []))) W1
      (fun k W h => hISt k W h.1) (fun k W ⟨q1, q2, q3⟩ => ⟨hId k W q1, q2, q3⟩) ?_ ⟨hi1, hl1, hd1⟩).mono ?_
    · rintro k W hk ⟨hi, hl, hkd⟩
      have hy := run_yield (P := P) (args := #[xs k]) hl (by rw [hrc]; exact hps.symm)
      rw [hrc] at hy
      refine ⟨fn, _, assign, body, hy, roundIn_of_wpIn hfn (hassign _ k W _ hk ⟨_, run_beginRound hl (by rw [hrc]), ?_⟩)⟩
      have hlt : w.heap.size + 1 < W.heap.size := blkLt hl
      obtain ⟨Wb, hWb⟩ : ∃ Wb, W.putObj (w.heap.size + 1) (.loop { rc .ready none with state := .busy }) = Wb := ⟨_, rfl⟩
      rw [hWb]
      have hl2 : Wb.heap[w.heap.size + 1]? = some (.loop { rc .ready none with state := .busy }) := by rw [← hWb]; exact World.putObj_heap_same hlt
      have hk2 : Wb.heap[w.heap.size]? = some (.deferred (some [])) := by rw [← hWb]; exact (World.putObj_heap_other (by omega)).trans hkd
      have hi2 : I k Wb := by rw [← hWb]; exact hIp _ _ _ hi
      refine wpIn_mono (hbody _ k Wb hk (blkLt hl2) hi2) ?_
      rintro e a3 W3 hp
      cases e with
      | normal =>
        obtain ⟨⟨k1, k2⟩, hi3⟩ := hp
        have hl3 := k1.trans hl2
        have hr := run_endRound (P := P) none hl3
        rw [hrc] at hr hl3
        exact ⟨_, _, hr, ⟨rfl, hIp _ _ _ hi3, by rw [hrc]; exact World.putObj_heap_same (blkLt hl3), (World.putObj_heap_other (by omega)).trans (k2.trans hk2)⟩⟩
      | exit id => exact hp.elim
      | ret => exact hp.elim
      | goto t => exact hp.elim
      | panic ch => exact hp.elim
      | outgrown => exact hp.elim
    · rintro e W2 ⟨⟨v, rfl⟩, hi, hl, hkd⟩
      exact ⟨none, _, by have := run_endLoop (P := P) hl (by rw [hrc]; simp); rw [hrc] at this; exact this, hdone _ (hIp _ _ _ hi) ((World.putObj_heap_other (by omega)).trans hkd)⟩
end
/-! ### A region in a round -/
section
variable {P : Program} {ops : Array Oper} {Q : Exit → Act → World → Prop} {md : Region.Mode} {l n : Nat}
theorem rowsIn_wide {row : String} {args : Array Value} {w : World} {R : Value → World → Prop} (h : Rows P row args w R) : RowsIn (Fence.wide.inRound l) n P row args w R :=
  fun c cs _ => let ⟨v, w', r, s⟩ := h c cs; ⟨v, w', r, stepsIn_wide.2 s⟩
theorem operIn_of_oper {o : Oper} (hd : ∀ c, o.op ≠ .defer c) {a : Act} {w : World} {K : Act → World → Prop} (h : o.wp P a w K Q) : o.wpIn (Fence.wide.inRound l) n P a w K Q := by
  refine ⟨fun _ _ => trivial, ?_⟩
  rw [show (o.semAt (Fence.wide.inRound l).round a.eval) = execOp a.eval o from Oper.semAt_eq _ _ _ hd]
  unfold Oper.wp at h
  cases hr : (execOp a.eval o).run P w with
  | ok x w' =>
    rw [hr] at h
    cases x with
    | value v => exact h
    | skip => exact h
    | defer d => exact h
    | enter f args => exact ⟨(fun e => Bool.noConfusion e), CallsIn.inRound l (callsIn_wide.2 h)⟩
    | row row args => exact ⟨(fun e => Bool.noConfusion e), rowsIn_wide h⟩
    | round _ _ _ _ _ => exact h.elim
    | _ => exact h.elim
  | halt x w' =>
    rw [hr] at h
    cases x <;> exact h
theorem anyIn_of_any' (hd : ∀ (i : Nat) (o : Oper), ops[i]? = some o → ∀ c, o.op ≠ .defer c) (hL : ¬ LetsOut Q) : ∀ (fuel : Nat) (listed : Array Bool) (a : Act) (w : World), wpAny P md ops Q fuel listed a w → wpAnyIn (Fence.wide.inRound l) n P md ops Q fuel listed a w
  | 0, _, _, _, h => h
  | fuel + 1, listed, a, w, h => by
    refine ⟨h.1, fun i hi => ?_⟩
    have h2 := h.2 i hi
    unfold wpOp at h2
    unfold wpOpIn
    cases ho : ops[i]? with
    | none =>
      rw [ho] at h2
      exact anyIn_of_any' hd hL fuel _ a w h2
    | some o =>
      rw [ho] at h2
      simp only at h2 ⊢
      split at h2
      · rename_i hw
        rw [if_pos hw]
        rcases h2 with h2 | h2
        · exact Oper.wpIn_mono (fun a' w' h' => anyIn_of_any' hd hL fuel _ a' w' h') (operIn_of_oper (hd i o ho) h2)
        · exact absurd h2.2 hL
      · rename_i hw
        rw [if_neg hw]
        exact ⟨fun _ _ => trivial, anyIn_of_any' hd hL fuel _ _ _ h2⟩
def noDefer (o : Oper) : Bool := match o.op with
  | .defer _ => false
  | _ => true
theorem anyIn_of_any (hd : ops.all noDefer = true) (hL : ¬ LetsOut Q) (fuel : Nat) (listed : Array Bool) (a : Act) (w : World) (h : wpAny P md ops Q fuel listed a w) : wpAnyIn (Fence.wide.inRound l) n P md ops Q fuel listed a w :=
  anyIn_of_any' (fun i o ho c hc => by
    obtain ⟨hi, rfl⟩ := Array.getElem?_eq_some_iff.1 ho
    have := (Array.all_eq_true.1 hd) i hi
    rw [noDefer, hc] at this
    cases this) hL fuel listed a w h
end
end Go.Proofs.YtnhdlclicjmmnaaGreat
/- TopPatched: slices.Chunk and its iterator. -/
namespace Go.Proofs.YtnhdlclicjmmnaaGreat
open Go.RowKit Go.Lib Go.Shelf
attribute [local go_sem] Oper.semAt_some
/-- The k-th chunk of the L bytes in block g. -/
def chunkV (g c L k : Nat) : Value := .slice (some ⟨g, k * c, none⟩) (min c (L - k * c)) (min c (L - k * c))
/-- How many chunks. -/
def chunkN (L c : Nat) : Nat := (L + c - 1) / c
theorem chunkN_lt {L c k : Nat} (hc : 1 ≤ c) : k < chunkN L c ↔ k * c < L := by
  unfold chunkN
  rw [Nat.lt_div_iff_mul_lt (by omega)]
  constructor
  · intro h; omega
  · intro h; omega
/-- What the iterator has captured. -/
def CkSt (b1 b2 g L C c : Nat) (W : World) : Prop :=
  W.heap[b1]? = some (.cells #[.slice (some ⟨g, 0, none⟩) L C] 22 (0, 0)) ∧ W.heap[b2]? = some (.cells #[.int .i64 c] 3 (0, 0))
theorem chunk_calls (w : World) (g L C c : Nat) (hc : 1 ≤ c) :
    Calls Tryz.prog 21 #[.slice (some ⟨g, 0, none⟩) L C, .int .i64 c] w fun e w' => e = .returned (.func (.func 46) #[] #[.pointer (some ⟨w.heap.size, 0, none⟩), .pointer (some ⟨w.heap.size + 1, 0, none⟩)]) ∧
      w' = (w.alloc (.cells #[.slice (some ⟨g, 0, none⟩) L C] 22 (0, 0))).alloc (.cells #[.int .i64 c] 3 (0, 0)) := by
  have d0 : decide ((c : Int) < 1) = false := decide_eq_false (by omega)
  go_enter Tryz.func21, Tryz.ntmps21
  go_wp2_with fail
  go_ret
  exact ⟨by simp [World.size_alloc], rfl⟩
set_option maxRecDepth 100000 in
set_option maxHeartbeats 2000000 in
theorem chunk_seq (n b1 b2 g L C c : Nat) (hn : 1 ≤ n) (hc : 1 ≤ c) (hc2 : c ≤ 1024) (hL : L ≤ 8192) (hC : L ≤ C) (l : Nat) (J : Nat → World → Prop) (W : World) (hSt : ∀ k W, J k W → CkSt b1 b2 g L C c W) (hJ : ∀ k W, J k W → J k W.drew)
    (hY : ∀ (k : Nat) (W1 : World), k < chunkN L c → J k W1 → YieldAt Fence.wide (n - 1) Tryz.prog l #[chunkV g c L k] W1 fun e W' => e = .returned (.bool true) ∧ J (k + 1) W')
    (h0 : J 0 W) : CallsIn Fence.wide n Tryz.prog 46 (#[.func (.yield l) #[] #[]] ++ #[.pointer (some ⟨b1, 0, none⟩), .pointer (some ⟨b2, 0, none⟩)]) W fun e W' => (∃ v, e = .returned v) ∧ J (chunkN L c) W' := by
  have HY := Lib.hid hY
  have HJ := Lib.hid hJ
  have HS := Lib.hid hSt
  have H0 := Lib.hid h0
  clear hY hJ hSt h0
  refine callsIn_of_wp Tryz.func46 rfl trivial ?_ rfl
  simp only [Tryz.ntmps46, List.size_toArray, List.length_cons, List.length_nil, Nat.reduceAdd, Nat.reduceSub, Array.replicate_succ, Array.replicate_zero, List.push_toArray, List.append_toArray, List.nil_append, List.cons_append]
  gi_wp2
  gi_loopw [4] (fun v wr => ∃ k i : Nat, v = .int .i64 i ∧ HD (i = k * c ∧ k ≤ chunkN L c) ∧ HD (J k wr)) (fun v _ => L + 1 - (intOf v).toNat)
  case atStart => exact ⟨0, 0, rfl, ⟨by simp⟩, ⟨H0.out⟩⟩
  case round =>
    obtain ⟨k, i, rfl, HK, HJJ⟩ := hrel
    obtain ⟨w2, rfl⟩ : ∃ w2, w2 = wr := ⟨_, rfl⟩
    obtain ⟨s1, s2⟩ := HS.out k w2 HJJ.out
    have c1 : w2.cell? ⟨b1, 0, none⟩ = some (.slice (some ⟨g, 0, none⟩) L C) := blkCell s1 0
    have c2 : w2.cell? ⟨b2, 0, none⟩ = some (.int .i64 c) := blkCell s2 0
    obtain ⟨k1, k2⟩ := HK.out
    clear s1 s2
    by_cases hlt : k < chunkN L c
    · have hi : i < L := by rw [k1]; exact (chunkN_lt hc).1 hlt
      obtain ⟨e, he⟩ : ∃ e, min c (L - k * c) = e := ⟨_, rfl⟩
      have hV : chunkV g c L k = .slice (some ⟨g, i, none⟩) e e := by unfold chunkV; rw [he, ← k1]
      rw [← k1] at he
      have k0 : IntKind.i64.wrap ((i : Int) + e) = ((i + e : Nat) : Int) := by rw [IntKind.wrap_i64]; omega
      have k3 : IntKind.i64.wrap ((i : Int) + c) = ((i + c : Nat) : Int) := by rw [IntKind.wrap_i64]; omega
      have HMIN : ∀ (ts : Array TypeId) (T : TypeId) (w : World), (Builtin.min_ ts T #[.int .i64 c, .int .i64 ((L - i : Nat) : Int)]).run Tryz.prog w = .ok (.int .i64 e) w := fun ts T w => by
        rw [run_min_int2 w ts T _ _ _ _]
        congr 2
        split <;> omega
      have q0 : (0 : Int) ≤ (i : Int) := by omega
      have q1 : (i : Int) ≤ (L : Int) := by omega
      have q2 : (i : Int) ≤ ((i + e : Nat) : Int) := by omega
      have q3 : ((i + e : Nat) : Int) ≤ (C : Int) := by omega
      have q4 : i + e - i = e := by omega
      have q5 : ¬ e = 0 := by omega
      obtain ⟨fn, tmps, assign, body, hy, hR⟩ := HY.out k w2.drew hlt (HJ.out k w2 HJJ.out)
      rw [hV] at hy
      have HE := Lib.hid he
      have HK1 := Lib.hid k1
      clear he k1 hV
      gi_wp2
      gi_region
      all_goals
        gi_wp2
        refine hR.mono ?_
        rintro e2 W3 ⟨rfl, hJ3⟩
        obtain ⟨s1, s2⟩ := HS.out (k + 1) W3 hJ3
        have c3 : W3.cell? ⟨b2, 0, none⟩ = some (.int .i64 c) := blkCell s2 0
        have HJ3 := Lib.hid hJ3
        clear s1 s2 hJ3
        gi_wp2
        exact ⟨⟨k + 1, i + c, by go_num, ⟨by rw [HK1.out, Nat.add_mul, Nat.one_mul], hlt⟩, ⟨HJ3.out⟩⟩, by simp [intOf]; omega⟩
    · have hkN : k = chunkN L c := by omega
      have hi : ¬ i < L := by rw [k1]; exact fun h => hlt ((chunkN_lt hc).2 h)
      have HK1 := Lib.hid k1
      clear k1
      gi_wp2
      go_end0
      exact ⟨⟨_, rfl⟩, hkN ▸ HJJ.out⟩
end Go.Proofs.YtnhdlclicjmmnaaGreat
/- TopPatched: delta's cut. -/
namespace Go.Proofs.YtnhdlclicjmmnaaGreat
open Go.RowKit Go.Lib Go.Shelf
set_option maxHeartbeats 1000000 in
theorem pcut_calls (w : World) (p : Nat) (cs : Array Value) (s : ByteArray) (n : Nat) (hp : w.heap[p]? = some (.cells cs 73 (0, 0))) (h1 : cs[1]? = some (.string s)) (hn : n ≤ s.size) :
    Calls Tryz.prog 56 #[.pointer (some ⟨p, 0, none⟩), .int .i64 n] w fun e w' => e = .returned (.pointer (some ⟨w.heap.size, 0, none⟩)) ∧ RdAt w' 159 w.heap.size (s.extract 0 n, 0) ∧ w'.heap[p]? = some (.cells (cs.setIfInBounds 1 (.string (s.extract n s.size))) 73 (0, 0)) ∧ Chg (fun k => k = p) w w' := by
  have e1 : w.cell? ⟨p, 1, none⟩ = some (.string s) := (blkCell hp 1).trans h1
  have f1 := blkFree hp 1
  have HP := Lib.hid hp
  have HN := Lib.hid hn
  have q0 : (0 : Int) ≤ (n : Int) := by omega
  have q1 : (n : Int) ≤ (s.size : Int) := by omega
  clear hp h1
  go_enter Tryz.func56, Tryz.ntmps56
  go_wp2_with (go_at_call 83; (with_reducible refine (pRead_calls _ _).mono ?_); rintro e w2 ⟨rfl, he⟩; have HE := Lib.hid he; clear he)
  go_ret
  rw [HE.out]
  have hz : (w.setCell ⟨p, 1, none⟩ (.string (s.extract n s.size))).heap.size = w.heap.size := by simp [World.setCell]
  have g1 : Chg (fun k => k = p) w (w.setCell ⟨p, 1, none⟩ (.string (s.extract n s.size))) := (Chg.refl (fun k => k = p) w).setCell (p := ⟨p, 1, none⟩) (.inl rfl) _
  refine ⟨rfl, ?_, blkOld (blkSet HP.out 1 _) _, g1.alloc _⟩
  have := blkAlloc (w.setCell ⟨p, 1, none⟩ (.string (s.extract n s.size))) (.cells #[.string (s.extract 0 n), .int .i64 0] 159)
  rw [hz] at this
  exact this
end Go.Proofs.YtnhdlclicjmmnaaGreat
/- TopPatched: delta's fits; the builder's length, where it lies in a patcher. -/
namespace Go.Proofs.YtnhdlclicjmmnaaGreat
open Go.RowKit Go.Lib Go.Shelf
theorem bLen_calls (w : World) (p n c : Nat) (A : Option Addr) (h8 : w.cell? ⟨p, 8, none⟩ = some (.slice A n c)) :
    Calls Tryz.prog 34 #[.pointer (some ⟨p, 7, none⟩)] w fun e w' => e = .returned (.int .i64 n) ∧ w' = w := by
  go_enter Tryz.func34, Tryz.ntmps34
  go_wp2
  go_ret
  exact ⟨rfl, rfl⟩
end Go.Proofs.YtnhdlclicjmmnaaGreat
/- TopPatched: delta's fits; the builder's length, where it lies in a patcher. -/
namespace Go.Proofs.YtnhdlclicjmmnaaGreat
open Go.RowKit Go.Lib Go.Shelf
set_option maxHeartbeats 1000000 in
theorem pfits_calls (w : World) (p n c sz k : Nat) (A : Option Addr) (h2 : w.cell? ⟨p, 2, none⟩ = some (.int .i64 sz)) (h8 : w.cell? ⟨p, 8, none⟩ = some (.slice A n c)) (h9 : w.cell? ⟨p, 9, none⟩ = some (.int .i64 0)) (hk : k + n ≤ sz) (hs : sz ≤ 1000000) :
    Calls Tryz.prog 60 #[.pointer (some ⟨p, 0, none⟩), .int .i64 k] w fun e w' => e = .returned (.bool true) ∧ Chg (fun _ => False) w w' := by
  have k1 : IntKind.i64.wrap ((sz : Int) - n) = (sz : Int) - n := by rw [IntKind.wrap_i64]; omega
  have d0 : decide ((sz : Int) - n < (k : Int)) = false := decide_eq_false (by omega)
  have C := Lib.hid (fun (w' : World) (h : w'.cell? ⟨p, 8, none⟩ = some (.slice A n c)) => bLen_calls w' p n c A h)
  have H8 := Lib.hid h8
  have D := Lib.hid (Chg.refl (fun _ => False) w)
  go_enter Tryz.func60, Tryz.ntmps60
  go_wp2_with fail
  go_region_held3 (fun w' => w'.cell? ⟨p, 2, none⟩ = some (.int .i64 sz)) (first | exact h2 | exact e2)
    (first
      | (go_at_call 34; refine (C.out _ (by first | exact H8.out | exact (show w.cell? _ = _ from H8.out))).mono ?_; rintro e w5 ⟨rfl, he⟩; have he := he.symm; subst he)
      | fail "NOFIT")
  all_goals
    go_wp2
    go_ret
    exact ⟨rfl, by first | exact D.out | exact D.out.drew | exact D.out.drewN _⟩
end Go.Proofs.YtnhdlclicjmmnaaGreat

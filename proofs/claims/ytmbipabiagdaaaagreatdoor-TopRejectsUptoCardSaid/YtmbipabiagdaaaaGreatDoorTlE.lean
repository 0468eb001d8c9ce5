/- TopRejects: what note.Read answers. -/
import Derived.Test.YtmbipabiagdaaaaGreatDoorTjI
import Derived.RangeFuncNested
import Derived.RangeFuncBound
import Derived.RangeFuncCalls
import Derived.RangeFuncLeaves
import Derived.Shelf.Abstract
import Derived.Shelf.RegionOpen
import Derived.OwnWalkIn
import Derived.TacticsInMore
import Derived.LoopNIn
import Derived.LoopIn
import Derived.Lib.IndexBytes
import Derived.Test.YtmbipabiagdaaaaGreatDoorSR2
import Derived.Test.YtmbipabiagdaaaaGreatDoorTjX
import Derived.Test.YtmbipabiagdaaaaGreatDoorTjZ
import Derived.Test.YtmbipabiagdaaaaGreatDoorTjD
namespace Go.Proofs.YtmbipabiagdaaaaGreatDoor
open Go.RowKit Go.Lib Go.Shelf
def NPost (s : ByteArray) (w : World) (e : Ending) (w' : World) : Prop :=
  ∃ t A c r l x, e = .returned (.tuple #[.agg #[.string t, .slice A (l : List Sg).length c], .int .i64 x]) ∧ SgRow w' (.slice A l.length c) r l ∧ t.size ≤ 4000000 ∧ Chg (fun _ => False) w w' ∧ ((x = 3 ∧ t = ⟨#[]⟩ ∧ l = []) ∨ (x = 0 ∧ formT t l = s ∧ formE t l = 0))
end Go.Proofs.YtmbipabiagdaaaaGreatDoor
/- TopRejects: a range over a function whose iterator writes a variable of its own: what the rounds are handed is not followed. -/
namespace Go.Proofs.YtmbipabiagdaaaaGreatDoor
open Go.RowKit
/-- How a round may be left: by its end, or by a break. -/
def RoundEnd (D l : Nat) (Kp : World → World → Prop) (I : World → Prop) (Ix : Code → World → Prop) (W : World) : Exit → Act → World → Prop
  | .normal, _, W' => (W'.heap[l]? = W.heap[l]? ∧ W'.heap[D]? = W.heap[D]?) ∧ Kp W W' ∧ I W'
  | .exit id, _, W' => (W'.heap[l]? = W.heap[l]? ∧ W'.heap[D]? = W.heap[D]?) ∧ Ix (.exit id) W'
  | _, _, _ => False
section
variable {F : Fence} {n : Nat} {P : Program}
theorem wpIn_range_box {g : Operand} {ps : Array Tmp} {assign body : Code} {Q : Exit → Act → World → Prop} {a : Act} {w : World}
    (hro : F.round = none) (h1 : 1 ≤ n) {gf : Nat} {lb : Array Value} (hg : a.eval g = .func (.func gf) #[] lb) (hFg : F.fn gf) (eg : ∀ args w, (callFunc gf args).run P w = .ok (.enter gf args) w)
    (m sb : Nat) (hsb : sb < w.heap.size) (hps : ps.size = 1) (Kp : World → World → Prop) (St : World → Prop)
    (hseq : ∀ (l : Nat) (J Jx : World → Prop) (W : World), St W → (∀ W v, J W → J (W.setCell ⟨sb, 0, none⟩ v)) →
      (∀ (x : ByteArray) (W1 : World), x.size ≤ m → J W1 → YieldAt F (n - 1 - 1) P l #[.string x] W1 fun e W' => (e = .returned (.bool true) ∧ J W' ∧ Kp W1 W') ∨ (e = .returned (.bool false) ∧ Jx W')) →
      J W → CallsIn F (n - 1) P gf (#[.func (.yield l) #[] #[]] ++ lb) W fun e W' => (∃ v, e = .returned v) ∧ (J W' ∨ Jx W'))
    (hSt : ∀ o o', St ((w.alloc o).alloc o')) (hKt : ∀ {A B C : World}, Kp A B → Kp B C → Kp A C) (hKb : ∀ (W : World) (o : Obj), Kp W (W.putObj (w.heap.size + 1) o))
    (I : World → Prop) (Ix : Code → World → Prop) (hIa : ∀ o o', I ((w.alloc o).alloc o')) (hIp : ∀ W o, I W → I (W.putObj (w.heap.size + 1) o)) (hIs : ∀ W v, I W → I (W.setCell ⟨sb, 0, none⟩ v)) (hXp : ∀ c W o, Ix c W → Ix c (W.putObj (w.heap.size + 1) o))
    (a₁ : ByteArray → Act)
    (hassign : ∀ (l : Nat) (x : ByteArray) (W : World) (K : Act → World → Prop), K (a₁ x) W →
      assign.wpIn (F.inRound l) (n - 1 - 1) P (Exit.then K (fun _ _ _ => False)) { tmps := (ps.zip #[Value.string x]).foldl (fun t (p, v) => t.setIfInBounds p v) a.tmps, defers := [] } W)
    (hbody : ∀ (l : Nat) (x : ByteArray) (W : World), x.size ≤ m → I W → body.wpIn (F.inRound l) (n - 1 - 1) P (RoundEnd w.heap.size (w.heap.size + 1) Kp I Ix W) (a₁ x) W)
    (hdone : ∀ (W : World), I W → W.heap[w.heap.size]? = some (.deferred (some [])) → Q .normal { a with defers := { target := .collected w.heap.size, args := #[] } :: a.defers } W)
    (hstop : ∀ (c : Code) (W : World), Ix c W → W.heap[w.heap.size]? = some (.deferred (some [])) → c.wpIn F n P Q { a with defers := { target := .collected w.heap.size, args := #[] } :: a.defers } W) :
    (Code.rangeFunc g ps assign body).wpIn F n P Q a w := by
  refine wpIn_rangeFunc ?_
  intro fn hfn
  rw [hro]
  obtain ⟨D, hD⟩ : ∃ D, w.heap.size = D := ⟨_, rfl⟩
  obtain ⟨rc, hrc⟩ : ∃ rc : LoopState → Option Code → Loop, rc = fun st pe => { state := st, pending := pe, fn, tmps := a.tmps, params := ps, assign, body, defers := w.heap.size } := ⟨_, rfl⟩
  obtain ⟨W1, hW1⟩ : ∃ W1, (w.alloc (.deferred (some []))).alloc (.loop (rc .ready none)) = W1 := ⟨_, rfl⟩
  have hl1 : W1.heap[w.heap.size + 1]? = some (.loop (rc .ready none)) := by
    rw [← hW1]
    have := blkAlloc (w.alloc (.deferred (some []))) (.loop (rc .ready none))
    rwa [World.size_alloc] at this
  have hd1 : W1.heap[w.heap.size]? = some (.deferred (some [])) := by
    rw [← hW1]
    exact blkOld (blkAlloc w _) _
  have hi1 : I W1 := by rw [← hW1]; exact hIa _ _
  have hs1 : St W1 := by rw [← hW1]; exact hSt _ _
  refine ⟨w.heap.size + 1, [{ target := .collected w.heap.size, args := #[] }], W1, { target := .fn (.func gf) lb, args := #[.func (.yield (w.heap.size + 1)) #[] #[]] }, W1, gf,
    #[.func (.yield (w.heap.size + 1)) #[] #[]] ++ lb, W1, ?_, ?_, ?_, ?_, fun _ => h1, ?_⟩
  · rw [← hW1, hrc]
    exact run_enterLoop_outer _ _ _ _ _
  · simp only [resolve, hg]
    simp [go_sem]
  · intro f' hf'
    simp [Target.leads] at hf'
    subst hf'
    exact hFg
  · simp [invoke, go_sem, eg]
  · refine (hseq (w.heap.size + 1)
      (fun W => I W ∧ W.heap[w.heap.size + 1]? = some (.loop (rc .ready none)) ∧ W.heap[w.heap.size]? = some (.deferred (some [])))
      (fun W => ∃ c, Ix c W ∧ W.heap[w.heap.size + 1]? = some (.loop (rc .done (some c))) ∧ W.heap[w.heap.size]? = some (.deferred (some []))) W1 hs1
      (fun W v ⟨q1, q2, q3⟩ => ⟨hIs W v q1, (Below.heap_setCell W ⟨sb, 0, none⟩ v _ (fun e => by have h : w.heap.size + 1 = sb := e; omega)).trans q2, (Below.heap_setCell W ⟨sb, 0, none⟩ v _ (fun e => by have h : w.heap.size = sb := e; omega)).trans q3⟩)
      ?_ ⟨hi1, hl1, hd1⟩).mono ?_
    · rintro x W hx ⟨hi, hl, hk⟩
      have hy := run_yield (P := P) (args := #[Value.string x]) hl (by rw [hrc]; exact hps.symm)
      rw [hrc] at hy
      refine ⟨fn, _, assign, body, hy, roundIn_of_wpIn hfn (hassign _ x W _ ⟨_, run_beginRound hl (by rw [hrc]), ?_⟩)⟩
      have hlt : w.heap.size + 1 < W.heap.size := blkLt hl
      obtain ⟨Wb, hWb⟩ : ∃ Wb, W.putObj (w.heap.size + 1) (.loop { rc .ready none with state := .busy }) = Wb := ⟨_, rfl⟩
      rw [hWb]
      have hl2 : Wb.heap[w.heap.size + 1]? = some (.loop { rc .ready none with state := .busy }) := by rw [← hWb]; exact World.putObj_heap_same hlt
      have hk2 : Wb.heap[w.heap.size]? = some (.deferred (some [])) := by rw [← hWb]; exact (World.putObj_heap_other (by omega)).trans hk
      have hw2 : Kp W Wb := by rw [← hWb]; exact hKb _ _
      have hi2 : I Wb := by rw [← hWb]; exact hIp _ _ hi
      refine wpIn_mono (hbody _ x Wb hx hi2) ?_
      rintro e a3 W3 hp
      have fin : ∀ (jump : Option Code), (W3.heap[w.heap.size + 1]? = Wb.heap[w.heap.size + 1]? ∧ W3.heap[w.heap.size]? = Wb.heap[w.heap.size]?) →
          (Instr.endRound (w.heap.size + 1) jump).run P W3 = .ok (.bool jump.isNone) (W3.putObj (w.heap.size + 1) (.loop (rc (if jump.isNone then .ready else .done) jump))) ∧
          (W3.putObj (w.heap.size + 1) (.loop (rc (if jump.isNone then .ready else .done) jump))).heap[w.heap.size + 1]? = some (.loop (rc (if jump.isNone then .ready else .done) jump)) ∧
          (W3.putObj (w.heap.size + 1) (.loop (rc (if jump.isNone then .ready else .done) jump))).heap[w.heap.size]? = some (.deferred (some [])) := fun jump ⟨k1, k2⟩ => by
        have hl3 := k1.trans hl2
        have hr := run_endRound (P := P) jump hl3
        rw [hrc] at hr hl3 ⊢
        exact ⟨hr, World.putObj_heap_same (blkLt hl3), (World.putObj_heap_other (by omega)).trans (k2.trans hk2)⟩
      cases e with
      | normal =>
        obtain ⟨hk3, hkp3, hi3⟩ := hp
        obtain ⟨hr, hl4, hk4⟩ := fin none hk3
        exact ⟨_, _, hr, .inl ⟨rfl, ⟨hIp _ _ hi3, hl4, hk4⟩, hKt (hKt hw2 hkp3) (hKb _ _)⟩⟩
      | exit id =>
        obtain ⟨hk3, hi3⟩ := hp
        obtain ⟨hr, hl4, hk4⟩ := fin (some (.exit id)) hk3
        exact ⟨_, _, hr, .inr ⟨rfl, .exit id, hXp _ _ _ hi3, hl4, hk4⟩⟩
      | ret => exact hp.elim
      | goto t => exact hp.elim
      | panic ch => exact hp.elim
      | outgrown => exact hp.elim
    · rintro e W2 ⟨⟨v, rfl⟩, (⟨hi, hl, hk⟩ | ⟨c, hi, hl, hk⟩)⟩
      · exact ⟨none, _, by have := run_endLoop (P := P) hl (by rw [hrc]; simp); rw [hrc] at this; exact this, hdone _ (hIp _ _ hi) ((World.putObj_heap_other (by omega)).trans hk)⟩
      · exact ⟨some c, _, by have := run_endLoop (P := P) hl (by rw [hrc]; simp); rw [hrc] at this; exact this, hstop c _ (hXp _ _ _ hi) ((World.putObj_heap_other (by omega)).trans hk)⟩
end
end Go.Proofs.YtmbipabiagdaaaaGreatDoor
/- TopRejects: strings.SplitSeq's iterator. -/
namespace Go.Proofs.YtmbipabiagdaaaaGreatDoor
open Go.RowKit Go.Lib Go.Shelf
attribute [local go_sem] Oper.semAt_some
/-- What the iterator has captured: the separator, what is left, how much of the separator is kept. -/
def SqSt (pb sb vb m : Nat) (W : World) : Prop :=
  W.heap[pb]? = some (.cells #[.string ⟨#[10]⟩] 9 (0, 0)) ∧ W.heap[vb]? = some (.cells #[.int .i64 0] 3 (0, 0)) ∧ ∃ s : ByteArray, s.size ≤ m ∧ W.heap[sb]? = some (.cells #[.string s] 9 (0, 0))
/-- What a round keeps. -/
def SqK (pb sb vb : Nat) (W W' : World) : Prop := W'.heap[pb]? = W.heap[pb]? ∧ W'.heap[vb]? = W.heap[vb]? ∧ W'.heap[sb]? = W.heap[sb]?
theorem SqK.trans {pb sb vb : Nat} {A B C : World} (h : SqK pb sb vb A B) (k : SqK pb sb vb B C) : SqK pb sb vb A C := ⟨k.1.trans h.1, k.2.1.trans h.2.1, k.2.2.trans h.2.2⟩
theorem idx_cases (s : ByteArray) : Lib.indexByte s.data.toList 10 = -1 ∨ ∃ k : Nat, Lib.indexByte s.data.toList 10 = (k : Int) ∧ k + 1 ≤ s.size := by
  have h := Lib.indexByte_ge s.data.toList 10
  by_cases h0 : 0 ≤ Lib.indexByte s.data.toList 10
  · obtain ⟨k, hk⟩ := Int.eq_ofNat_of_zero_le h0
    refine .inr ⟨k, hk, ?_⟩
    have h1 := (List.getElem?_eq_some_iff.1 (Lib.indexByte_some hk).1).1
    rw [Array.length_toList] at h1
    exact h1
  · exact .inl (by omega)
def leftB (sb : Nat) (W : World) : Nat := match W.cell? ⟨sb, 0, none⟩ with
  | some (.string s) => s.size
  | _ => 0
theorem leftB_eq {sb : Nat} {W : World} {s : ByteArray} (h : W.heap[sb]? = some (.cells #[.string s] 9 (0, 0))) : leftB sb W = s.size := by
  have : W.cell? ⟨sb, 0, none⟩ = some (.string s) := blkCell h 0
  unfold leftB
  rw [this]
set_option maxRecDepth 100000 in
set_option maxHeartbeats 2000000 in
theorem sq_seq (n m pb sb vb : Nat) (hn : 1 ≤ n) (hm : m ≤ 1048576) (h1 : sb ≠ pb) (h2 : sb ≠ vb) (l : Nat) (J Jx : World → Prop) (W : World) (hSt : SqSt pb sb vb m W) (hJ : ∀ W v, J W → J (W.setCell ⟨sb, 0, none⟩ v))
    (hY : ∀ (x : ByteArray) (W1 : World), x.size ≤ m → J W1 → YieldAt Fence.wide (n - 1) Tryz.prog l #[.string x] W1 fun e W' => (e = .returned (.bool true) ∧ J W' ∧ SqK pb sb vb W1 W') ∨ (e = .returned (.bool false) ∧ Jx W'))
    (h0 : J W) : CallsIn Fence.wide n Tryz.prog 103 (#[.func (.yield l) #[] #[]] ++ #[.pointer (some ⟨pb, 0, none⟩), .pointer (some ⟨sb, 0, none⟩), .pointer (some ⟨vb, 0, none⟩)]) W fun e W' => (∃ v, e = .returned v) ∧ (J W' ∨ Jx W') := by
  have HY := Lib.hid hY
  have HJ := Lib.hid hJ
  have HS := Lib.hid hSt
  have H0 := Lib.hid h0
  have p0 : W.cell? ⟨pb, 0, none⟩ = some (.string ⟨#[10]⟩) := blkCell hSt.1 0
  clear hY hJ hSt h0
  refine callsIn_of_wp Tryz.func103 rfl trivial ?_ rfl
  simp only [Tryz.ntmps103, List.size_toArray, List.length_cons, List.length_nil, Nat.reduceAdd, Nat.reduceSub, Array.replicate_succ, Array.replicate_zero, List.push_toArray, List.append_toArray, List.nil_append, List.cons_append]
  gi_wp2
  gi_loopw [7] (fun _ wr => ∃ s : ByteArray, HD (s.size ≤ m) ∧ HD (wr.heap[sb]? = some (.cells #[.string s] 9 (0, 0))) ∧ HD (wr.heap[pb]? = some (.cells #[.string ⟨#[10]⟩] 9 (0, 0))) ∧ HD (wr.heap[vb]? = some (.cells #[.int .i64 0] 3 (0, 0))) ∧ HD (J wr)) (fun _ wr => leftB sb wr)
  case atStart =>
    obtain ⟨q1, q2, s, q3, q4⟩ := HS.out
    exact ⟨s, ⟨q3⟩, ⟨q4⟩, ⟨q1⟩, ⟨q2⟩, ⟨H0.out⟩⟩
  case round =>
    obtain ⟨s, HSZ, HSB, HPB, HVB, HJJ⟩ := hrel
    obtain ⟨w2, rfl⟩ : ∃ w2, w2 = wr := ⟨_, rfl⟩
    have s0 : w2.cell? ⟨sb, 0, none⟩ = some (.string s) := blkCell HSB.out 0
    have p1 : w2.cell? ⟨pb, 0, none⟩ = some (.string ⟨#[10]⟩) := blkCell HPB.out 0
    have v0 : w2.cell? ⟨vb, 0, none⟩ = some (.int .i64 0) := blkCell HVB.out 0
    have C := Lib.hid (Tryz.strings_Index_one s 10 w2)
    have hsz := HSZ.out
    rcases idx_cases s with hi | ⟨k, hi, hk⟩
    · rw [hi] at C
      obtain ⟨fn, tmps, assign, body, hy, hR⟩ := HY.out s w2 hsz HJJ.out
      clear hi p0
      gi_wp2_with (refine ⟨trivial, ?_⟩; gi_at_call 95; refine (callsIn_wide.2 C.out).mono ?_; rintro e w' ⟨rfl, he⟩; obtain rfl := he)
      refine hR.mono ?_
      rintro e W3 (⟨rfl, hJ3, _⟩ | ⟨rfl, hJx3⟩)
      · gi_wp2
        go_end0
        exact ⟨⟨_, rfl⟩, .inl hJ3⟩
      · gi_wp2
        go_end0
        exact ⟨⟨_, rfl⟩, .inr hJx3⟩
    · rw [hi] at C
      have hx : (s.extract 0 k).size ≤ m := by rw [ByteArray.size_extract]; omega
      obtain ⟨fn, tmps, assign, body, hy, hR⟩ := HY.out (s.extract 0 k) w2 hx HJJ.out
      have q0 : ¬ (k : Int) < 0 := by omega
      have q1 : (0 : Int) ≤ (k : Int) := by omega
      have q2 : (k : Int) ≤ (s.size : Int) := by omega
      have q3 : (k : Int) + 1 ≤ (s.size : Int) := by omega
      have q4 : (0 : Int) ≤ (k : Int) + 1 := by omega
      have hsz2 : (s.size : Int) ≤ 1048576 := by omega
      clear hi p0
      gi_wp2_with (refine ⟨trivial, ?_⟩; gi_at_call 95; refine (callsIn_wide.2 C.out).mono ?_; rintro e w' ⟨rfl, he⟩; obtain rfl := he)
      refine hR.mono ?_
      rintro e W3 (⟨rfl, hJ3, k1, k2, k3⟩ | ⟨rfl, hJx3⟩)
      · have hsb := k3.trans HSB.out
        have s3 : W3.cell? ⟨sb, 0, none⟩ = some (.string s) := blkCell hsb 0
        have f3 := blkFree hsb 0
        have p3 : W3.cell? ⟨pb, 0, none⟩ = some (.string ⟨#[10]⟩) := blkCell (k1.trans HPB.out) 0
        have HSB3 := Lib.hid hsb
        have HK1 := Lib.hid k1
        have HK2 := Lib.hid k2
        have HJ3 := Lib.hid hJ3
        clear k1 k2 k3 hsb hJ3
        gi_wp2
        have hsb9 : (W3.setCell ⟨sb, 0, none⟩ (.string (s.extract (k + 1) s.size))).heap[sb]? = some (.cells #[.string (s.extract (k + 1) s.size)] 9 (0, 0)) := by simpa using blkSet HSB3.out 0 (.string (s.extract (k + 1) s.size))
        have g : Chg (fun j => j = sb) W3 (W3.setCell ⟨sb, 0, none⟩ (.string (s.extract (k + 1) s.size))) := (Chg.refl (fun j => j = sb) W3).setCell (p := ⟨sb, 0, none⟩) (.inl rfl) _
        exact ⟨⟨_, ⟨by rw [ByteArray.size_extract]; omega⟩, ⟨hsb9⟩, ⟨g.obj (HK1.out.trans HPB.out) (fun e => h1 e.symm)⟩, ⟨g.obj (HK2.out.trans HVB.out) (fun e => h2 e.symm)⟩, ⟨HJ.out _ _ HJ3.out⟩⟩, by rw [leftB_eq hsb9, leftB_eq HSB.out, ByteArray.size_extract]; omega⟩
      · gi_wp2
        refine bodyPost_ret (results_none rfl _ _ _) rfl ?_
        exact ⟨⟨_, rfl⟩, .inr hJx3⟩
end Go.Proofs.YtmbipabiagdaaaaGreatDoor
/- TopRejects: strings.SplitSeq; append of a struct at a fence. -/
namespace Go.Proofs.YtmbipabiagdaaaaGreatDoor
open Go.RowKit Go.Lib Go.Shelf
section
variable {P : Program} {α : Type} {E : TypeId} {sz : Nat} {enc : α → List Value}
theorem wpListIn_sappend {F : Fence} {n : Nat} (w : World) {ops : Array Oper} {rest : List Oper} {o : Oper} {a : Act} {Q : Exit → Act → World → Prop} (hgd : o.guard = none) (sl x : Operand) (t : TypeId) (bytes : Nat) (ho : o.op = .call { callee := .builtin .append, args := #[sl, x], argTypes := #[t, t] })
    (ht : P.underlying t = some (.slice E)) (hE : ElemInfo P E sz bytes) (he : ∀ x, (enc x).length = sz) (h1 : ∀ x, ∀ u ∈ enc x, u.oneCell' = true)
    (v : Value) (r : Option Nat) (l : List α) (q : α) (hs : a.eval sl = v) (hx : a.eval x = .slice (some ⟨w.heap.size, 0, none⟩) 1 1) (h : SRow E sz enc w v r l) (hl : (l.length + 1) * bytes ≤ 140737488355328) (hb : 1 ≤ bytes)
    (hk : ∀ A c w' r', SRow E sz enc w' (.slice A (l ++ [q]).length c) r' (l ++ [q]) → Next w r r' → (w.alloc (.cells (enc q).toArray E)).grownBy w' r → wpListIn F n P ops Q rest (a.put o.dst (.slice A (l ++ [q]).length c)) w') :
    wpListIn F n P ops Q (o :: rest) a (w.alloc (.cells (enc q).toArray E)) := by
  refine wpListIn_plain hgd fun K hK => ?_
  obtain ⟨A, c, w', r', hr, h2, h3, h4⟩ := run_sappend (P := P) w t o.type bytes ht hE he h1 v r l q h hl hb
  unfold Oper.wpIn
  refine ⟨?_, ?_⟩
  · simp [Oper.about, ho, resolve, Target.leads, Sem.run_pure]
  · rw [Oper.semAt_plain F _ _ (by rw [ho]; intro c hc'; cases hc')]
    simp [execOp, ho, resolve, invoke, builtin, hs, hx, hr, Result.andThen]
    exact hK _ _ (by simpa using hk A c w' r' h2 h3 h4)
end
set_option maxRecDepth 100000 in
theorem splitSeqI_calls (w : World) (s sep : ByteArray) :
    Calls Tryz.prog 51 #[.string s, .string sep, .int .i64 0] w fun e w' => e = .returned (.func (.func 103) #[] #[.pointer (some ⟨w.heap.size + 1, 0, none⟩), .pointer (some ⟨w.heap.size, 0, none⟩), .pointer (some ⟨w.heap.size + 2, 0, none⟩)]) ∧
      w' = ((w.alloc (.cells #[.string s] 9 (0, 0))).alloc (.cells #[.string sep] 9 (0, 0))).alloc (.cells #[.int .i64 0] 3 (0, 0)) := by
  go_enter Tryz.func51, Tryz.ntmps51
  go_wp2_with fail
  go_ret
  exact ⟨by simp [World.size_alloc], rfl⟩
theorem splitSeq_calls (w : World) (s sep : ByteArray) :
    Calls Tryz.prog 18 #[.string s, .string sep] w fun e w' => e = .returned (.func (.func 103) #[] #[.pointer (some ⟨w.heap.size + 1, 0, none⟩), .pointer (some ⟨w.heap.size, 0, none⟩), .pointer (some ⟨w.heap.size + 2, 0, none⟩)]) ∧
      w' = ((w.alloc (.cells #[.string s] 9 (0, 0))).alloc (.cells #[.string sep] 9 (0, 0))).alloc (.cells #[.int .i64 0] 3 (0, 0)) := by
  have C := Lib.hid (splitSeqI_calls w s sep)
  go_enter Tryz.func18, Tryz.ntmps18
  go_wp2_with (go_at_call 51; refine (C.out).mono ?_; rintro e w1 ⟨rfl, rfl⟩)
  go_ret
  exact ⟨rfl, rfl⟩
end Go.Proofs.YtmbipabiagdaaaaGreatDoor
/- TopRejects: what a round of note.Read keeps. -/
namespace Go.Proofs.YtmbipabiagdaaaaGreatDoor
open Go.RowKit Go.Lib Go.Shelf
def NI (w : World) (nb b0 pb sb vb D B : Nat) (tx : ByteArray) (W : World) : Prop :=
  ∃ (A : Option Addr) (c : Nat) (r : Option Nat) (l : List Sg), W.heap[nb]? = some (.cells #[.string tx, .slice A l.length c] 29 (0, 0)) ∧ SgRow W (.slice A l.length c) r l ∧ l.length ≤ B ∧ (∀ k, r = some k → w.heap.size ≤ k ∧ k ≠ D ∧ k ≠ D + 1) ∧ D + 2 ≤ W.heap.size ∧
    W.heap[b0]? = some (.cells #[.string ⟨#[]⟩, .slice none 0 0] 29 (0, 0)) ∧ (∃ u, W.heap[pb]? = some (.cells u 9 (0, 0))) ∧ (∃ u, W.heap[sb]? = some (.cells u 9 (0, 0))) ∧ (∃ u, W.heap[vb]? = some (.cells u 3 (0, 0))) ∧ Chg (fun _ => False) w W
theorem elemSg : ElemInfo Tryz.prog 70 2 32 := ElemInfo.mk' (z := .agg #[.string ⟨#[]⟩, .string ⟨#[]⟩]) (by kernel_rfl) rfl (by decide)
theorem Chg.put (w : World) (g : Nat) (o : Obj) : Chg (fun k => k = g) w (w.putObj g o) :=
  ⟨rfl, rfl, rfl, by simp [World.putObj], fun k _ hk => World.putObj_heap_other (fun e => hk e)⟩
theorem NI.chg {w W W' : World} {nb b0 pb sb vb D B : Nat} {tx : ByteArray} (h : NI w nb b0 pb sb vb D B tx W) (c : Chg (fun k => k = D + 1) W W') (hD : w.heap.size ≤ D) (h1 : nb < D) (h2 : b0 < D) (h3 : pb < D) (h4 : sb < D) (h5 : vb < D) : NI w nb b0 pb sb vb D B tx W' := by
  obtain ⟨A, e, r, l, q1, q2, q3, q4, q5, q6, ⟨u, q7⟩, ⟨u', q8⟩, ⟨u2, q9⟩, q10⟩ := h
  exact ⟨A, e, r, l, c.obj q1 (by omega), q2.chg c (fun k hk => (q4 k hk).2.2), q3, q4, Nat.le_trans q5 c.size, c.obj q6 (by omega), ⟨u, c.obj q7 (by omega)⟩, ⟨u', c.obj q8 (by omega)⟩, ⟨u2, c.obj q9 (by omega)⟩, q10.trans c (fun k hk => .inr (by omega))⟩
theorem NI.set {w W : World} {nb b0 pb sb vb D B : Nat} {tx : ByteArray} (h : NI w nb b0 pb sb vb D B tx W) (v : Value) (hs : w.heap.size ≤ sb) (h1 : nb ≠ sb) (h2 : b0 ≠ sb) (h3 : pb ≠ sb) (h5 : vb ≠ sb) : NI w nb b0 pb sb vb D B tx (W.setCell ⟨sb, 0, none⟩ v) := by
  have c : Chg (fun j => j = sb) W (W.setCell ⟨sb, 0, none⟩ v) := (Chg.refl (fun j => j = sb) W).setCell (p := ⟨sb, 0, none⟩) (.inl rfl) _
  obtain ⟨A, e, r, l, q1, q2, q3, q4, q5, q6, ⟨u, q7⟩, ⟨u', q8⟩, ⟨u2, q9⟩, q10⟩ := h
  exact ⟨A, e, r, l, c.obj q1 h1, q2.chg c (fun k hk hk2 => SRow.ne q2 q8 (by decide) (by rw [hk, hk2])), q3, q4, Nat.le_trans q5 c.size, c.obj q6 h2, ⟨u, c.obj q7 h3⟩, ⟨_, blkSet q8 0 v⟩, ⟨u2, c.obj q9 h5⟩, q10.trans c (fun k hk => .inr (by rw [hk]; exact hs))⟩
theorem NI.step {w W w7 w8 : World} {nb b0 pb sb vb D : Nat} {tx : ByteArray} {A A8 : Option Addr} {e c8 : Nat} {r r8 : Option Nat} {l : List Sg} {q : Sg} {o : Obj}
    (q1 : W.heap[nb]? = some (.cells #[.string tx, .slice A l.length e] 29 (0, 0))) (q2 : SgRow W (.slice A l.length e) r l) (q4 : ∀ k, r = some k → w.heap.size ≤ k ∧ k ≠ D ∧ k ≠ D + 1) (q5 : D + 2 ≤ W.heap.size)
    (q6 : W.heap[b0]? = some (.cells #[.string ⟨#[]⟩, .slice none 0 0] 29 (0, 0))) (q7 : ∃ u, W.heap[pb]? = some (.cells u 9 (0, 0))) (q8 : ∃ u, W.heap[sb]? = some (.cells u 9 (0, 0))) (q9 : ∃ u, W.heap[vb]? = some (.cells u 3 (0, 0))) (q10 : Chg (fun _ => False) w W)
    (G : Chg (fun _ => False) W w7) (hrow8 : SgRow w8 (.slice A8 (l ++ [q]).length c8) r8 (l ++ [q])) (hn : Next w7 r r8) (hgr : (w7.alloc o).grownBy w8 r)
    (hw : w.heap.size ≤ nb) (h0 : nb < D) (h1 : nb ≠ b0) (h2 : nb ≠ pb) (h3 : nb ≠ sb) (h4 : nb ≠ vb) (W' : World) (hW' : W' = w8.setCell ⟨nb, 1, none⟩ (.slice A8 (l ++ [q]).length c8)) :
    (∀ B, (l ++ [q]).length ≤ B → NI w nb b0 pb sb vb D B tx W') ∧ (W'.heap[D + 1]? = W.heap[D + 1]? ∧ W'.heap[D]? = W.heap[D]?) ∧ SqK pb sb vb W W' ∧ W'.heap[nb]? = some (.cells #[.string tx, .slice A8 (l ++ [q]).length c8] 29 (0, 0)) := by
  have g8 : Chg (fun k => r = some k) w7 w8 := ((Chg.refl _ w7).alloc o).grown hgr (fun _ h => .inl h)
  have g8' : Chg (fun k => r = some k) W w8 := (G.mono (fun _ h => h.elim)).trans g8 (fun k hk => .inl hk)
  have hb8 := g8'.obj q1 (SRow.ne q2 q1 (by decide))
  have g9 : Chg (fun k => k = nb) w8 W' := by rw [hW']; exact (Chg.refl (fun k => k = nb) w8).setCell (p := ⟨nb, 1, none⟩) (.inl rfl) _
  have g10 : Chg (fun k => r = some k ∨ k = nb) W W' := (g8'.mono (fun _ h => .inl (.inl h))).trans (g9.mono (fun _ h => .inl (.inr h))) (fun k hk => .inl hk)
  have hnb : W'.heap[nb]? = some (.cells #[.string tx, .slice A8 (l ++ [q]).length c8] 29 (0, 0)) := by rw [hW']; simpa using blkSet hb8 1 (.slice A8 (l ++ [q]).length c8)
  obtain ⟨u7, p7⟩ := q7
  obtain ⟨u8, p8⟩ := q8
  obtain ⟨u9, p9⟩ := q9
  have k6 := g10.obj q6 (by rintro (h | h); exact SRow.ne q2 q6 (by decide) h; exact h1 h.symm)
  have k7 := g10.obj p7 (by rintro (h | h); exact SRow.ne q2 p7 (by decide) h; exact h2 h.symm)
  have k8 := g10.obj p8 (by rintro (h | h); exact SRow.ne q2 p8 (by decide) h; exact h3 h.symm)
  have k9 := g10.obj p9 (by rintro (h | h); exact SRow.ne q2 p9 (by decide) h; exact h4 h.symm)
  refine ⟨fun B hB => ⟨A8, c8, r8, l ++ [q], hnb, hrow8.chg g9 (fun k hk hk2 => SRow.ne hrow8 hb8 (by decide) (by rw [hk, hk2])), hB, ?_, Nat.le_trans q5 g10.size, k6, ⟨_, k7⟩, ⟨_, k8⟩, ⟨_, k9⟩, q10.trans g10 ?_⟩, ⟨?_, ?_⟩, ⟨k7.trans p7.symm, k9.trans p9.symm, k8.trans p8.symm⟩, hnb⟩
  · intro k hk
    rcases hn.mem hk with h | h
    · exact q4 k h
    · have := G.size
      have := q10.size
      exact ⟨by omega, by omega, by omega⟩
  · rintro k (h | h)
    · exact .inr (q4 k h).1
    · exact .inr (by rw [h]; exact hw)
  · exact g10.block _ (by omega) (by rintro (h | h); exact (q4 _ h).2.2 rfl; omega)
  · exact g10.block _ (by omega) (by rintro (h | h); exact (q4 _ h).2.1 rfl; omega)
end Go.Proofs.YtmbipabiagdaaaaGreatDoor

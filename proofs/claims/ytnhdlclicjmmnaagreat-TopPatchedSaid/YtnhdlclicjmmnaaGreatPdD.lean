/- TopPatched: small lemmas; strings.Join by the shelf's contract. -/
import Derived.Test.YtnhdlclicjmmnaaGreatShF2
import Derived.Test.YtnhdlclicjmmnaaGreatShelf
import Derived.Test.YtnhdlclicjmmnaaGreatSR2
import Derived.Deep.MidRow
import Derived.Deep.RegionLaw
import Derived.Laws.Tables
import Derived.Laws.CopyOwn
import Derived.Great.Walk
import Derived.IntWalk
import Derived.Outline
import Derived.Test.YtnhdlclicjmmnaaGreatProg
namespace Go.Proofs.YtnhdlclicjmmnaaGreat
open Go.RowKit Go.Lib Go.Shelf
def strU (l : List UInt8) : ByteArray := ⟨l.toArray⟩
theorem strU_size (l : List UInt8) : (strU l).size = l.length := rfl
def joinB (xs : List ByteArray) (sep : ByteArray) : ByteArray := strU (Lib.join (xs.map (·.data.toList)) sep.data.toList)
theorem join_calls (w : World) (bk c : Nat) (xs : List ByteArray) (sep : ByteArray) (hb : w.heap[bk]? = some (.cells (xs.map Value.string).toArray 9 (0, 0))) (hN : xs.length ≤ 1000000) (hc : xs.length ≤ c) (hl : (joinB xs sep).size ≤ 140737488355328) :
    Calls Tryz.prog 71 #[.slice (some ⟨bk, 0, none⟩) xs.length c, .string sep] w fun e w' => e = .returned (.string (joinB xs sep)) ∧ Chg (fun _ => False) w w' :=
  (Tryz.strings_Join bk 0 c xs sep w (fun j x hx => by
    rw [Nat.zero_add, blkCell hb]
    simp [hx]) (blkLt hb) (by omega) hc hl).mono fun e w' ⟨he, hw⟩ => ⟨he, Chg.of_below hw _⟩
theorem any_take {α : Type} (p : α → Bool) (l : List α) (k : Nat) (x : α) (h : l[k]? = some x) : (l.take (k + 1)).any p = ((l.take k).any p || p x) := by
  obtain ⟨hk, hx⟩ := List.getElem?_eq_some_iff.1 h
  rw [List.take_succ_eq_append_getElem hk, List.any_append, hx]
  simp
theorem any_part {α : Type} (p : α → Bool) (l : List α) (k : Nat) (x : α) (h : l[k]? = some x) (hp : p x = true) : l.any p = true := by
  rw [List.any_eq_true]
  exact ⟨x, List.mem_iff_getElem?.2 ⟨k, h⟩, hp⟩
theorem str_eq (a b : ByteArray) : (!a.toList == b.toList) = false ↔ a = b := by
  rw [ByteArray.toList_eq, ByteArray.toList_eq, Bool.not_eq_false', beq_iff_eq]
  constructor
  · intro h
    exact ByteArray.ext (Array.ext' h)
  · intro h
    rw [h]
theorem Chg.cellOf {w w1 : World} {g : Nat} (h : Chg (fun k => k = g) w w1) (i : Nat) (u : Value) : Chg (fun k => k = g) w (w1.setCell ⟨g, i, none⟩ u) := h.setCell (.inl rfl) u
end Go.Proofs.YtnhdlclicjmmnaaGreat
/- TopPatched: the device: what its blocks hold; the small methods. -/
namespace Go.Proofs.YtnhdlclicjmmnaaGreat
open Go.RowKit Go.Lib Go.Shelf
/-- A sector's bytes, filled up. -/
def fit64 (x : List UInt8) : List UInt8 := (x ++ List.replicate 64 0).take 64
theorem fit64_len (x : List UInt8) : (fit64 x).length = 64 := by simp [fit64]
theorem fit64_id (x : List UInt8) (h : x.length = 64) : fit64 x = x := by
  rw [fit64, List.take_append_of_le_length (by omega), List.take_of_length_le (by omega)]
theorem fit64_fit (x : List UInt8) : fit64 (fit64 x) = fit64 x := fit64_id _ (fit64_len x)
def enc64 (x : List UInt8) : List Value := bcells (fit64 x)
theorem enc64_len (x : List UInt8) : (enc64 x).length = 64 := by rw [enc64, bcells_length, fit64_len]
theorem bcells_one (l : List UInt8) : ∀ u ∈ bcells l, u.oneCell' = true := by
  intro u hu
  obtain ⟨b, _, rfl⟩ := List.mem_map.1 hu
  rfl
theorem enc64_one (x : List UInt8) : ∀ u ∈ enc64 x, u.oneCell' = true := bcells_one _
abbrev DRow (w : World) (v : Value) (r : Option Nat) (l : List (List UInt8)) : Prop := SRow 92 64 enc64 w v r l
def encW (x : Nat × List UInt8) : List Value := .int .i64 x.1 :: enc64 x.2
theorem encW_len (x : Nat × List UInt8) : (encW x).length = 65 := by rw [encW, List.length_cons, enc64_len]
theorem encW_one (x : Nat × List UInt8) : ∀ u ∈ encW x, u.oneCell' = true := by
  intro u hu
  rcases List.mem_cons.1 hu with rfl | hu
  · rfl
  · exact enc64_one _ u hu
abbrev WRow (w : World) (v : Value) (r : Option Nat) (l : List (Nat × List UInt8)) : Prop := SRow 94 65 encW w v r l
theorem info64 : (Tryz.prog.info? 92).map (fun i => (i.zero, i.size, i.bytes)) = some (some (.agg (Array.replicate 64 (.int .u8 0))), 64, 64) := by kernel_rfl
theorem info65 : (Tryz.prog.info? 94).map (fun i => (i.zero, i.size, i.bytes)) = some (some (.agg (#[.int .i64 0] ++ Array.replicate 64 (.int .u8 0))), 65, 72) := by kernel_rfl
theorem elem64 : ElemInfo Tryz.prog 92 64 64 := ElemInfo.mk' info64 (by simp [Value.cells]) (by decide)
theorem elem65 : ElemInfo Tryz.prog 94 65 72 := ElemInfo.mk' info65 (by simp [Value.cells]) (by decide)
theorem size64 : (Tryz.prog.info? 92).map (·.size) = some 64 := by kernel_rfl
theorem size65 : (Tryz.prog.info? 94).map (·.size) = some 65 := by kernel_rfl
/-- Blocks of other types than those of S stay; maps stay. -/
def KeptT (S : TypeId → Prop) (w w' : World) : Prop := ∀ (k : Nat) (o : Obj), w.heap[k]? = some o → (∀ cs T fr, o = .cells cs T fr → ¬ S T) → w'.heap[k]? = some o
theorem KeptT.refl (S : TypeId → Prop) (w : World) : KeptT S w w := fun _ _ h _ => h
theorem KeptT.trans {S : TypeId → Prop} {w w1 w2 : World} (h : KeptT S w w1) (h2 : KeptT S w1 w2) : KeptT S w w2 := fun k o hk hn => h2 k o (h k o hk hn) hn
theorem KeptT.mono {S S' : TypeId → Prop} {w w1 : World} (h : KeptT S w w1) (hs : ∀ T, S T → S' T) : KeptT S' w w1 := fun k o hk hn => h k o hk (fun cs T fr e hh => hn cs T fr e (hs T hh))
theorem KeptT.of_chg {S : TypeId → Prop} {w w1 : World} (c : Chg (fun _ => False) w w1) : KeptT S w w1 := fun _ _ hk _ => c.obj hk (fun h => h)
/-- What may turn is of these types. -/
theorem KeptT.of {S : TypeId → Prop} {X : Nat → Prop} {w w1 : World} (c : Chg X w w1) (hx : ∀ k, X k → w.heap.size ≤ k ∨ ∃ cs T fr, w.heap[k]? = some (.cells cs T fr) ∧ S T) : KeptT S w w1 := fun k o hk hn => by
  refine c.obj hk (fun h => ?_)
  rcases hx k h with h1 | ⟨cs, T, fr, h1, h2⟩
  · exact absurd (blkLt hk) (Nat.not_lt.2 h1)
  · rw [hk] at h1
    injection h1 with h1
    exact hn cs T fr h1 h2
theorem KeptT.cells {S : TypeId → Prop} {w w1 : World} (h : KeptT S w w1) {k : Nat} {cs : Array Value} {T : TypeId} {fr : Nat × Nat} (hk : w.heap[k]? = some (.cells cs T fr)) (hT : ¬ S T) : w1.heap[k]? = some (.cells cs T fr) :=
  h k _ hk (fun cs' T' fr' e => by injection e with _ e _; rw [← e]; exact hT)
theorem KeptT.map {S : TypeId → Prop} {w w1 : World} (h : KeptT S w w1) {k : Nat} {es : Array MapEntry} {c : Nat} (hk : w.heap[k]? = some (.map es c)) : w1.heap[k]? = some (.map es c) :=
  h k _ hk (fun _ _ _ e => by cases e)
theorem KeptT.srow {S : TypeId → Prop} {α : Type} {E : TypeId} {sz : Nat} {enc : α → List Value} {w w1 : World} {v : Value} {r : Option Nat} {l : List α} (h : KeptT S w w1) (hr : SRow E sz enc w v r l) (hE : ¬ S E) : SRow E sz enc w1 v r l :=
  hr.step fun k hk => by
    obtain ⟨_, cs, hc⟩ := hr.lt hk
    rw [hc]
    exact h.cells hc hE
def SDev (T : TypeId) : Prop := T = 80 ∨ T = 92 ∨ T = 94
/-- The device at block b of w, laid behind w0: what is seen, what is safe, what is pending; the power stays. -/
def Dv (w0 w : World) (b : Nat) (seen safe : List (List UInt8)) (pend : List (Nat × List UInt8)) : Prop :=
  w0.heap.size ≤ b ∧ Chg (fun _ => False) w0 w ∧ ∃ A1 c1 r1 A2 c2 r2 A3 c3 r3 st,
    w.heap[b]? = some (.cells #[.slice A1 seen.length c1, .slice A2 safe.length c2, .slice A3 pend.length c3, .int .i64 st, .int .i64 0, .bool false] 80 (0, 0)) ∧
    DRow w (.slice A1 seen.length c1) r1 seen ∧ DRow w (.slice A2 safe.length c2) r2 safe ∧ WRow w (.slice A3 pend.length c3) r3 pend ∧
    (∀ k, r1 = some k → w0.heap.size ≤ k) ∧ (∀ k, r2 = some k → w0.heap.size ≤ k) ∧ (∀ k, r3 = some k → w0.heap.size ≤ k) ∧ (∀ k, r1 = some k → r2 ≠ some k)
theorem Dv.chg0 {w0 w : World} {b : Nat} {seen safe : List (List UInt8)} {pend : List (Nat × List UInt8)} (h : Dv w0 w b seen safe pend) : Chg (fun _ => False) w0 w := h.2.1
theorem Dv.kept {w0 w w1 : World} {b : Nat} {seen safe : List (List UInt8)} {pend : List (Nat × List UInt8)} (h : Dv w0 w b seen safe pend) {S : TypeId → Prop} (hk : KeptT S w w1) (hs : ∀ T, SDev T → ¬ S T) (hc : Chg (fun _ => False) w0 w1) : Dv w0 w1 b seen safe pend := by
  obtain ⟨h1, _, A1, c1, r1, A2, c2, r2, A3, c3, r3, st, h3, h4, h5, h6, h7⟩ := h
  exact ⟨h1, hc, A1, c1, r1, A2, c2, r2, A3, c3, r3, st, hk.cells h3 (hs _ (.inl rfl)), hk.srow h4 (hs _ (.inr (.inl rfl))), hk.srow h5 (hs _ (.inr (.inl rfl))), hk.srow h6 (hs _ (.inr (.inr rfl))), h7⟩
theorem Dv.alloc {w0 w : World} {b : Nat} {seen safe : List (List UInt8)} {pend : List (Nat × List UInt8)} (h : Dv w0 w b seen safe pend) (o : Obj) : Dv w0 (w.alloc o) b seen safe pend :=
  h.kept (S := fun _ => False) (KeptT.of_chg ((Chg.refl _ w).alloc o)) (fun _ _ hh => hh) (h.chg0.alloc o)
theorem Dv.drew {w0 w : World} {b : Nat} {seen safe : List (List UInt8)} {pend : List (Nat × List UInt8)} (h : Dv w0 w b seen safe pend) : Dv w0 w.drew b seen safe pend :=
  h.kept (S := fun _ => False) (KeptT.of_chg (Chg.refl _ w).drew) (fun _ _ hh => hh) h.chg0.drew

/-! ### The small methods, by the device's cells -/
theorem Sectors_calls (w : World) (b : Nat) (A : Option Addr) (n c : Nat) (h0 : w.cell? ⟨b, 0, none⟩ = some (.slice A n c)) :
    Calls Tryz.prog 61 #[.pointer (some ⟨b, 0, none⟩)] w fun e w' => e = .returned (.int .i64 n) ∧ w' = w := by
  go_enter Tryz.func61, Tryz.ntmps61
  go_wp2
  go_ret
  exact ⟨rfl, rfl⟩
theorem Off_calls (w : World) (b : Nat) (h5 : w.cell? ⟨b, 5, none⟩ = some (.bool false)) :
    Calls Tryz.prog 62 #[.pointer (some ⟨b, 0, none⟩)] w fun e w' => e = .returned (.bool false) ∧ w' = w := by
  go_enter Tryz.func62, Tryz.ntmps62
  go_wp2
  go_ret
  exact ⟨rfl, rfl⟩
theorem at_calls (w : World) (b : Nat) (A : Option Addr) (n c k : Nat) (h0 : w.cell? ⟨b, 0, none⟩ = some (.slice A n c)) (h5 : w.cell? ⟨b, 5, none⟩ = some (.bool false)) (hk : k < n) :
    Calls Tryz.prog 103 #[.pointer (some ⟨b, 0, none⟩), .int .i64 k] w fun e w' => e = .returned (.int .i64 0) ∧ w' = w := by
  have C := Sectors_calls w b A n c h0
  have e0 : decide ((k : Int) < 0) = false := decide_eq_false (by omega)
  have e1 : decide ((n : Int) ≤ (k : Int)) = false := decide_eq_false (by omega)
  go_enter Tryz.func103, Tryz.ntmps103
  go_wp2_with (go_at_call 61; refine C.mono ?_; rintro e w1 ⟨rfl, he⟩; obtain rfl := he)
  go_ret
  exact ⟨rfl, rfl⟩
theorem step_calls (w : World) (b : Nat) (st : Int) (h3 : w.cell? ⟨b, 3, none⟩ = some (.int .i64 st)) (f3 : w.frozen? ⟨b, 3, none⟩ = false) (h4 : w.cell? ⟨b, 4, none⟩ = some (.int .i64 0)) :
    Calls Tryz.prog 118 #[.pointer (some ⟨b, 0, none⟩)] w fun e w' => e = .returned (.int .i64 0) ∧ ∃ st', w' = w.setCell ⟨b, 3, none⟩ (.int .i64 st') := by
  go_enter Tryz.func118, Tryz.ntmps118
  go_wp2
  go_ret
  exact ⟨rfl, _, rfl⟩
end Go.Proofs.YtnhdlclicjmmnaaGreat

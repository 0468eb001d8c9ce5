/- Keys: what lies in memory: rows of strings, rows of rows, keys of both packages. -/
import Derived.Test.YtpdgkgdaaapngaaKyW
import Derived.Test.YtpdgkgdaaapngaaSR2
namespace Go.Proofs.Ytpdgkgdaaapngaa
open Go.RowKit
def encS (s : ByteArray) : List Value := [.string s]
theorem encS_len (s : ByteArray) : (encS s).length = 1 := rfl
theorem encS_one (s : ByteArray) : ∀ u ∈ encS s, u.oneCell' = true := by
  intro u hu
  rw [encS, List.mem_singleton] at hu
  subst hu
  rfl
/-- A slice's header. -/
structure Sl where
  a : Option Addr
  n : Nat
  c : Nat
  deriving Inhabited
def Sl.val (s : Sl) : Value := .slice s.a s.n s.c
def encL (s : Sl) : List Value := [s.val]
theorem encL_len (s : Sl) : (encL s).length = 1 := rfl
theorem encL_one (s : Sl) : ∀ u ∈ encL s, u.oneCell' = true := by
  intro u hu
  rw [encL, List.mem_singleton] at hu
  subst hu
  rfl
/-- A row of strings; a row of such rows' headers. -/
def SS (w : World) (v : Value) (r : Option Nat) (l : List ByteArray) : Prop := SRow 9 1 encS w v r l
def VV (w : World) (v : Value) (r : Option Nat) (l : List Sl) : Prop := SRow 38 1 encL w v r l
theorem elemS : ElemInfo Try.prog 9 1 16 := ElemInfo.mk' (z := .string ⟨#[]⟩) (by kernel_rfl) rfl (by decide)
theorem elemL : ElemInfo Try.prog 38 1 24 := ElemInfo.mk' (z := .slice none 0 0) (by kernel_rfl) rfl (by decide)
/-- S names blocks of other types alone. -/
def Other (S : Nat → Prop) (w : World) (E : TypeId) : Prop := ∀ k, S k → ∃ cs T, w.heap[k]? = some (.cells cs T (0, 0)) ∧ T ≠ E
theorem Other.none (w : World) (E : TypeId) : Other (fun _ => False) w E := fun _ h => h.elim
theorem Other.one {w : World} {b : Nat} {cs : Array Value} {T E : TypeId} (h : w.heap[b]? = some (.cells cs T (0, 0))) (hT : T ≠ E) : Other (fun k => k = b) w E := fun k hk => by
  subst hk
  exact ⟨cs, T, h, hT⟩
theorem SRow.other {α : Type} {E : TypeId} {sz : Nat} {enc : α → List Value} {w w1 : World} {v : Value} {r : Option Nat} {l : List α} {S : Nat → Prop} (h : SRow E sz enc w v r l) (c : Chg S w w1) (hS : Other S w E) : SRow E sz enc w1 v r l :=
  h.chg c (fun k hk hs => by
    obtain ⟨cs, T, h1, h2⟩ := hS k hs
    exact h.ne h1 h2 hk)
/-- n levels: the level j holds f j. -/
def LevelsAt (w : World) (lv : Value) (r : Option Nat) (f : Nat → List ByteArray) (n : Nat) : Prop :=
  ∃ vs : List Sl, VV w lv r vs ∧ vs.length = n ∧ ∀ j, j < n → ∃ rj, SS w (vs.getD j default).val rj (f j)
theorem LevelsAt.chg {w w1 : World} {lv : Value} {r : Option Nat} {f : Nat → List ByteArray} {n : Nat} {S : Nat → Prop} (h : LevelsAt w lv r f n) (c : Chg S w w1) (h1 : Other S w 9) (h2 : Other S w 38) : LevelsAt w1 lv r f n := by
  obtain ⟨vs, hv, hn, hj⟩ := h
  exact ⟨vs, hv.other c h2, hn, fun j hjn => by
    obtain ⟨rj, hs⟩ := hj j hjn
    exact ⟨rj, hs.other c h1⟩⟩
theorem SRow.val_at {α : Type} {E : TypeId} {sz : Nat} {enc : α → List Value} {w : World} {v : Value} {r : Option Nat} {l : List α} (h : SRow E sz enc w v r l) (hl : 0 < l.length) :
    ∃ g c, v = .slice (some ⟨g, 0, none⟩) l.length c ∧ r = some g ∧ l.length ≤ c ∧ c ≤ 9223372036854775807 := by
  obtain ⟨A, c, rfl, hc, hm⟩ := h.form
  obtain ⟨g, cur, rfl, hr, _⟩ := h.at_ hl
  exact ⟨g, c, rfl, hr, hc, hm⟩
theorem SS.get {w : World} {g n c : Nat} {r : Option Nat} {l : List ByteArray} (h : SS w (.slice (some ⟨g, 0, none⟩) n c) r l) (i : Nat) (hi : i < l.length) : w.cell? ⟨g, i, none⟩ = some (.string (l.getD i nilS)) := by
  have h2 : l[i]? = some (l.getD i nilS) := by
    rw [List.getD_eq_getElem?_getD, List.getElem?_eq_getElem hi]
    rfl
  have := (SRow.cell h encS_len i 0 (l.getD i nilS) h2 (by decide) (.string (l.getD i nilS)) rfl).1
  simpa using this
theorem VV.get {w : World} {g n c : Nat} {r : Option Nat} {l : List Sl} (h : VV w (.slice (some ⟨g, 0, none⟩) n c) r l) (i : Nat) (hi : i < l.length) : w.cell? ⟨g, i, none⟩ = some (l.getD i default).val := by
  have h2 : l[i]? = some (l.getD i default) := by
    rw [List.getD_eq_getElem?_getD, List.getElem?_eq_getElem hi]
    rfl
  have := (SRow.cell h encL_len i 0 (l.getD i default) h2 (by decide) (l.getD i default).val rfl).1
  simpa using this
/-- What is read of the levels: the level j, its place i. -/
theorem LevelsAt.get {w : World} {lv : Value} {r : Option Nat} {f : Nat → List ByteArray} {n : Nat} (h : LevelsAt w lv r f n) (j : Nat) (hj : j < n) (hf : 0 < (f j).length) :
    ∃ g c g2 c2, lv = .slice (some ⟨g, 0, none⟩) n c ∧ n ≤ c ∧ c ≤ 9223372036854775807 ∧ w.cell? ⟨g, j, none⟩ = some (.slice (some ⟨g2, 0, none⟩) (f j).length c2) ∧ (f j).length ≤ c2 ∧ c2 ≤ 9223372036854775807 ∧
      ∀ i, i < (f j).length → w.cell? ⟨g2, i, none⟩ = some (.string ((f j).getD i nilS)) := by
  obtain ⟨vs, hv, hn, hs⟩ := h
  obtain ⟨g, c, rfl, _, hc, hm⟩ := SRow.val_at hv (by omega)
  obtain ⟨rj, hr⟩ := hs j hj
  obtain ⟨g2, c2, hv2, _, hc2, hm2⟩ := SRow.val_at hr hf
  have hcell := hv.get j (by omega)
  rw [hv2] at hr hcell
  subst hn
  exact ⟨g, c, g2, c2, rfl, hc, hm, hcell, hc2, hm2, fun i hi => hr.get i hi⟩
/-- The reference's key in the block b. -/
def RKey (w : World) (b : Nat) (seed : ByteArray) (h : Nat) (used : Int) : Prop :=
  ∃ lv r, w.heap[b]? = some (.cells #[.string seed, .int .i64 h, lv, .int .i64 used] 52 (0, 0)) ∧ LevelsAt w lv r (lev seed h) (h + 1)
/-- A key in the block b. -/
def KKey (w : World) (b : Nat) (seed : ByteArray) (h : Nat) (used : Int) : Prop :=
  ∃ d lv r, w.heap[b]? = some (.cells #[.string seed, .int .i64 h, .int .u32 d, .int .i32 0, .int .u32 0, lv, .int .i64 used] 83 (0, 0)) ∧ ((d = 0 ∧ lv = .slice none 0 0) ∨ (d = 1 ∧ LevelsAt w lv r (lev seed h) (h + 1)))
theorem RKey.chg {w w1 : World} {b : Nat} {seed : ByteArray} {h : Nat} {used : Int} {S : Nat → Prop} (k : RKey w b seed h used) (c : Chg S w w1) (hb : ¬ S b) (h1 : Other S w 9) (h2 : Other S w 38) : RKey w1 b seed h used := by
  obtain ⟨lv, r, hc, hl⟩ := k
  exact ⟨lv, r, c.obj hc hb, hl.chg c h1 h2⟩
theorem KKey.chg {w w1 : World} {b : Nat} {seed : ByteArray} {h : Nat} {used : Int} {S : Nat → Prop} (k : KKey w b seed h used) (c : Chg S w w1) (hb : ¬ S b) (h1 : Other S w 9) (h2 : Other S w 38) : KKey w1 b seed h used := by
  obtain ⟨d, lv, r, hc, hl⟩ := k
  exact ⟨d, lv, r, c.obj hc hb, hl.imp id (fun ⟨e, hl⟩ => ⟨e, hl.chg c h1 h2⟩)⟩
theorem RKey.lt {w : World} {b : Nat} {seed : ByteArray} {h : Nat} {used : Int} (k : RKey w b seed h used) : b < w.heap.size := by
  obtain ⟨_, _, hc, _⟩ := k
  exact blkLt hc
theorem KKey.lt {w : World} {b : Nat} {seed : ByteArray} {h : Nat} {used : Int} (k : KKey w b seed h used) : b < w.heap.size := by
  obtain ⟨_, _, _, hc, _⟩ := k
  exact blkLt hc
/-- A row of strings that lies behind W. -/
def OwnL (W w : World) (v : Value) (l : List ByteArray) : Prop := ∃ r, SS w v r l ∧ (∀ k, r = some k → W.heap.size ≤ k) ∧ Chg (fun _ => False) W w
theorem OwnL.nil {W w : World} (h : Chg (fun _ => False) W w) : OwnL W w (.slice none 0 0) [] := ⟨none, SRow.nil _, (fun k (hk : none = some k) => nomatch hk), h⟩
theorem OwnL.kept {W w w1 : World} {v : Value} {l : List ByteArray} (h : OwnL W w v l) (hc : Chg (fun _ => False) w w1) : OwnL W w1 v l := by
  obtain ⟨r, h1, h2, h3⟩ := h
  exact ⟨r, SRow.chg h1 hc (fun _ _ h => h), h2, h3.trans hc (fun _ e => e.elim)⟩
theorem OwnL.next {W w w1 : World} {o : Obj} {v1 : Value} {l1 : List ByteArray} {r r1 : Option Nat} (hr : ∀ k, r = some k → W.heap.size ≤ k) (hc : Chg (fun _ => False) W w) (h1 : SRow 9 1 encS w1 v1 r1 l1) (hn : Next w r r1) (hg : (w.alloc o).grownBy w1 r) : OwnL W w1 v1 l1 :=
  ⟨r1, h1, fun k e => (hn.mem e).elim (hr k) (fun h => Nat.le_trans hc.size h), hc.trans (Chg.ofGrown hg) (fun k e => .inr (hr k e))⟩
end Go.Proofs.Ytpdgkgdaaapngaa

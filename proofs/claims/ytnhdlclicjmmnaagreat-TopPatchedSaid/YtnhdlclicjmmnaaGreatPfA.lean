/- TopPatched: the cell's contents: maps of names to texts. -/
import Derived.Test.YtnhdlclicjmmnaaGreatPdD
import Derived.Test.YtnhdlclicjmmnaaGreatWr
import Derived.Maps.OwnSet
import Derived.Maps.Views
import Derived.Sort.KeysCollected
import Derived.StringKeys
namespace Go.Proofs.YtnhdlclicjmmnaaGreat
open Go.RowKit Go.Lib Go.Shelf Go.Maps
def textElem : Value → Option (DataW Unit × List MemPlace)
  | .agg cs => match cs.toList with
    | [.string s] => some (.lit (.string s.data.toList), [])
    | _ => none
  | _ => none
theorem textElem_mk (s : ByteArray) : textElem (.agg #[.string s]) = some (.lit (.string s.data.toList), []) := rfl
theorem textElem_inv {v : Value} {z : DataW Unit × List MemPlace} (h : textElem v = some z) : ∃ s, v = .agg #[.string s] ∧ z = (.lit (.string s.data.toList), []) := by
  unfold textElem at h
  split at h
  · rename_i cs
    split at h
    · rename_i s hs
      refine ⟨s, ?_, by injection h with h; exact h.symm⟩
      congr 1
      apply Array.ext'
      exact hs
    · cases h
  · cases h
abbrev Cont := List (ByteArray × ByteArray)
def contE (p : ByteArray × ByteArray) : Lit × DataW Unit := (.string p.1.data.toList, .lit (.string p.2.data.toList))
def contD (M : Cont) : DataW Unit := .map (M.map contE)
theorem law9 : Keyed Tryz.prog 9 := string_keyed Tryz.underlying9
/-- Block m is a map with the names and texts of M. -/
def MapAt (w : World) (m : Nat) (M : Cont) : Prop := w.ownsMap Tryz.prog 9 textElem m M.length (contD M)
theorem own_tight {H : Type} {P : Program} {k : TypeId} {R : Value → Option (DataW H × List MemPlace)} {w : World} {b n : Nat} {D : DataW H} (h : w.ownsMap P k R b n D) : w.ownsMap P k R b (Maps.size D) D := by
  obtain ⟨es, clock, hb, F, hs, rfl⟩ := h
  exact ⟨es, clock, hb, F, by simp [Maps.size, length_sorted], rfl⟩
theorem MapAt.of {w : World} {m n : Nat} {M : Cont} (h : w.ownsMap Tryz.prog 9 textElem m n (contD M)) : MapAt w m M := by
  have := own_tight h
  rwa [show Maps.size (contD M) = M.length from List.length_map _] at this
theorem MapAt.lt {w : World} {m : Nat} {M : Cont} (h : MapAt w m M) : m < w.heap.size := World.ownsMap.lt h
theorem MapAt.chg {S : Nat → Prop} {w w1 : World} {m : Nat} {M : Cont} (h : MapAt w m M) (c : Chg S w w1) (hm : ¬ S m) : MapAt w1 m M := by
  have hlt := h.lt
  obtain ⟨es, clock, hb, F, hs, hD⟩ := h
  exact ⟨es, clock, c.obj hb hm, F, hs, hD⟩
theorem MapAt.kept {S : TypeId → Prop} {w w1 : World} {m : Nat} {M : Cont} (h : MapAt w m M) (c : KeptT S w w1) : MapAt w1 m M := by
  obtain ⟨es, clock, hb, F, hs, hD⟩ := h
  exact ⟨es, clock, c.map hb, F, hs, hD⟩
theorem MapAt.made (w : World) : MapAt (w.alloc (.map #[] 0)) w.heap.size [] := MapAt.of (World.ownsMap_made w _ _ _)
theorem MapAt.obj {w : World} {m : Nat} {M : Cont} (h : MapAt w m M) : ∃ es clock, w.heap[m]? = some (.map es clock) := by
  obtain ⟨es, clock, hb, _⟩ := h
  exact ⟨es, clock, hb⟩
theorem MapAt.ne {w : World} {m b : Nat} {M : Cont} (h : MapAt w m M) {cs : Array Value} {T : TypeId} {fr : Nat × Nat} (hb : w.heap[b]? = some (.cells cs T fr)) : m ≠ b := by
  rintro rfl
  obtain ⟨es, c, h⟩ := h.obj
  rw [hb] at h
  cases h
/-! ### Looking up -/
def getM : Cont → ByteArray → Option ByteArray
  | [], _ => none
  | p :: M, k => if p.1 = k then some p.2 else getM M k
theorem same_str (a b : List UInt8) : (Lit.string a).sameKey (.string b) = (a == b) := rfl
theorem bytes_ne {a b : ByteArray} (h : a ≠ b) : a.data.toList ≠ b.data.toList := fun e => h (WideShapes.bytes_inj e)
theorem get_has : ∀ (M : Cont) (k : ByteArray), Maps.has (contD M) (.string k.data.toList) = (getM M k).isSome
  | [], _ => rfl
  | p :: M, k => by
    have ih := get_has M k
    simp only [contD, Maps.has_eq] at ih
    show (((contE p) :: M.map contE).any fun q => q.1.sameKey (.string k.data.toList)) = _
    rw [List.any_cons, ih]
    by_cases e : p.1 = k
    · simp [getM, e, contE, same_str]
    · have h1 : (contE p).1.sameKey (.string k.data.toList) = false := by
        show (p.1.data.toList == k.data.toList) = false
        exact beq_eq_false_iff_ne.2 (bytes_ne e)
      rw [h1, Bool.false_or, getM, if_neg e]
theorem get_at : ∀ (M : Cont) (k : ByteArray), (contD M).atKey (.string k.data.toList) (.lit (.string [])) = .lit (.string ((getM M k).getD ⟨#[]⟩).data.toList)
  | [], _ => rfl
  | p :: M, k => by
    have ih := get_at M k
    simp only [contD, DataW.atKey] at ih
    simp only [contD, DataW.atKey, List.map_cons]
    by_cases e : p.1 = k
    · simp [getM, e, contE, same_str]
    · have h1 : (contE p).1.sameKey (.string k.data.toList) = false := by
        show (p.1.data.toList == k.data.toList) = false
        exact beq_eq_false_iff_ne.2 (bytes_ne e)
      rw [List.find?_cons, h1]
      simp only [getM, if_neg e]
      exact ih
theorem zero126 (w : World) : (zeroValue 126).run Tryz.prog w = .ok (.agg #[.string ⟨#[]⟩]) w := by kernel_rfl
theorem MapAt.look {w : World} {m : Nat} {M : Cont} (h : MapAt w m M) (k : ByteArray) (hk : k.size ≤ 1000000) :
    (Instr.lookup 113 (.map (some m)) (.string k) true).run Tryz.prog w = .ok (.tuple #[.agg #[.string ((getM M k).getD ⟨#[]⟩)], .bool (getM M k).isSome]) w := by
  obtain ⟨v, ps, hr, hv⟩ := World.ownsMap.look_ok (t := 113) (e := 126) h law9 Tryz.underlying113 (zero126 w) (textElem_mk ⟨#[]⟩) (key := .string k) (kl := .string k.data.toList) (WideMaps.keyOf_string_mk Tryz.underlying9 (by simp only [maxLen]; omega))
  have ha := get_at M k
  rw [show (.string (⟨#[]⟩ : ByteArray).data.toList : Lit) = .string [] from rfl, ha] at hv
  obtain ⟨s, rfl, hs⟩ := textElem_inv hv
  simp only [Prod.mk.injEq, DataW.lit.injEq, Lit.string.injEq] at hs
  rw [hr, get_has, WideShapes.bytes_inj hs.1]
theorem MapAt.look1 {w : World} {m : Nat} {M : Cont} (h : MapAt w m M) (k : ByteArray) (hk : k.size ≤ 1000000) :
    (Instr.lookup 113 (.map (some m)) (.string k) false).run Tryz.prog w = .ok (.agg #[.string ((getM M k).getD ⟨#[]⟩)]) w := by
  obtain ⟨v, ps, hr, hv⟩ := World.ownsMap.lookup (t := 113) (e := 126) h law9 Tryz.underlying113 (zero126 w) (textElem_mk ⟨#[]⟩) (key := .string k) (kl := .string k.data.toList) (WideMaps.keyOf_string_mk Tryz.underlying9 (by simp only [maxLen]; omega))
  have ha := get_at M k
  rw [show (.string (⟨#[]⟩ : ByteArray).data.toList : Lit) = .string [] from rfl, ha] at hv
  obtain ⟨s, rfl, hs⟩ := textElem_inv hv
  simp only [Prod.mk.injEq, DataW.lit.injEq, Lit.string.injEq] at hs
  rw [hr, WideShapes.bytes_inj hs.1]
theorem MapAt.len {w : World} {m : Nat} {M : Cont} (h : MapAt w m M) (ty : TypeId) : (Builtin.len_ #[113] ty #[.map (some m)]).run Tryz.prog w = .ok (.int .i64 M.length) w := by
  have := World.ownsMap.len (t := 113) (e := 126) h Tryz.underlying113 ty
  rwa [show Maps.size (contD M) = M.length from List.length_map _] at this
/-- A text laid: M' is what the map holds behind it. -/
theorem MapAt.put {w : World} {m : Nat} {M M' : Cont} (h : MapAt w m M) (k t : ByteArray) (hk : k.size ≤ 1000000) (hM : (contD M).put (.string k.data.toList) (.lit (.string t.data.toList)) = contD M') (hl : M.length < 1000) :
    ∃ w', (Instr.mapUpdate 113 (.map (some m)) (.string k) (.agg #[.string t])).run Tryz.prog w = .ok () w' ∧ MapAt w' m M' ∧ Chg (fun j => j = m) w w' := by
  obtain ⟨w', hr, ho, hg⟩ := World.ownsMap.update (t := 113) (e := 126) h law9 Tryz.underlying113 (by simp only [maxLen]; omega) (key := .string k) (kl := .string k.data.toList) (WideMaps.keyOf_string_mk Tryz.underlying9 (by simp only [maxLen]; omega)) (textElem_mk t)
  rw [hM] at ho
  exact ⟨w', hr, MapAt.of ho, Chg.of_grown hg (fun k e => by injection e with e; exact .inl e.symm)⟩
end Go.Proofs.YtnhdlclicjmmnaaGreat
/- TopPatched: maps of names to texts, as fetch reads them. -/
namespace Go.Proofs.YtnhdlclicjmmnaaGreat
open Go.RowKit Go.Lib Go.Shelf Go.Maps
theorem plain_inv {P : Program} {e : TypeId} (he : P.underlying e = some .string) {v : Value} {z : DataW Unit × List MemPlace} (h : plainElem P e v = some z) : ∃ s : ByteArray, v = .string s ∧ z = (.lit (.string s.data.toList), []) := by
  unfold plainElem at h
  rw [he] at h
  cases v <;> simp at h
  obtain ⟨_, rfl⟩ := h
  exact ⟨_, rfl, rfl⟩
theorem strElem_inv {v : Value} {z : DataW Unit × List MemPlace} (h : plainElem Tryz.prog 9 v = some z) : ∃ s : ByteArray, v = .string s ∧ z = (.lit (.string s.data.toList), []) := plain_inv Tryz.underlying9 h
theorem strElem0 : plainElem (H := Unit) Tryz.prog 9 (.string ⟨#[]⟩) = some (.lit (.string (⟨#[]⟩ : ByteArray).data.toList), []) := plainElem_string Tryz.underlying9 (by decide)
theorem zeroStr (w : World) : (zeroValue 9).run Tryz.prog w = .ok (.string ⟨#[]⟩) w := by kernel_rfl
/-- Block m is a map with the names and texts of M. -/
def MapS (w : World) (m : Nat) (M : Cont) : Prop := w.ownsMap Tryz.prog 9 (plainElem Tryz.prog 9) m M.length (contD M)
theorem MapS.of {w : World} {m n : Nat} {M : Cont} (h : w.ownsMap Tryz.prog 9 (plainElem Tryz.prog 9) m n (contD M)) : MapS w m M := by
  have := own_tight h
  rwa [show Maps.size (contD M) = M.length from List.length_map _] at this
theorem MapS.lt {w : World} {m : Nat} {M : Cont} (h : MapS w m M) : m < w.heap.size := World.ownsMap.lt h
theorem MapS.chg {S : Nat → Prop} {w w1 : World} {m : Nat} {M : Cont} (h : MapS w m M) (c : Chg S w w1) (hm : ¬ S m) : MapS w1 m M := by
  have hlt := h.lt
  obtain ⟨es, clock, hb, F, hs, hD⟩ := h
  exact ⟨es, clock, c.obj hb hm, F, hs, hD⟩
theorem MapS.kept {S : TypeId → Prop} {w w1 : World} {m : Nat} {M : Cont} (h : MapS w m M) (c : KeptT S w w1) : MapS w1 m M := by
  obtain ⟨es, clock, hb, F, hs, hD⟩ := h
  exact ⟨es, clock, c.map hb, F, hs, hD⟩
theorem MapS.made (w : World) : MapS (w.alloc (.map #[] 0)) w.heap.size [] := MapS.of (World.ownsMap_made w _ _ _)
theorem MapS.obj {w : World} {m : Nat} {M : Cont} (h : MapS w m M) : ∃ es clock, w.heap[m]? = some (.map es clock) := by
  obtain ⟨es, clock, hb, _⟩ := h
  exact ⟨es, clock, hb⟩
theorem MapS.ne {w : World} {m b : Nat} {M : Cont} (h : MapS w m M) {cs : Array Value} {T : TypeId} {fr : Nat × Nat} (hb : w.heap[b]? = some (.cells cs T fr)) : m ≠ b := by
  rintro rfl
  obtain ⟨es, c, h⟩ := h.obj
  rw [hb] at h
  cases h
theorem MapS.look {w : World} {m : Nat} {M : Cont} (h : MapS w m M) (k : ByteArray) (hk : k.size ≤ 1000000) :
    (Instr.lookup 118 (.map (some m)) (.string k) true).run Tryz.prog w = .ok (.tuple #[.string ((getM M k).getD ⟨#[]⟩), .bool (getM M k).isSome]) w := by
  obtain ⟨v, ps, hr, hv⟩ := World.ownsMap.look_ok (t := 118) (e := 9) h law9 Tryz.underlying118 (zeroStr w) strElem0 (key := .string k) (kl := .string k.data.toList) (WideMaps.keyOf_string_mk Tryz.underlying9 (by simp only [maxLen]; omega))
  have ha := get_at M k
  rw [show (.string (⟨#[]⟩ : ByteArray).data.toList : Lit) = .string [] from rfl, ha] at hv
  obtain ⟨s, rfl, hs⟩ := strElem_inv hv
  simp only [Prod.mk.injEq, DataW.lit.injEq, Lit.string.injEq] at hs
  rw [hr, get_has, WideShapes.bytes_inj hs.1]
theorem MapS.look1 {w : World} {m : Nat} {M : Cont} (h : MapS w m M) (k : ByteArray) (hk : k.size ≤ 1000000) :
    (Instr.lookup 118 (.map (some m)) (.string k) false).run Tryz.prog w = .ok (.string ((getM M k).getD ⟨#[]⟩)) w := by
  obtain ⟨v, ps, hr, hv⟩ := World.ownsMap.lookup (t := 118) (e := 9) h law9 Tryz.underlying118 (zeroStr w) strElem0 (key := .string k) (kl := .string k.data.toList) (WideMaps.keyOf_string_mk Tryz.underlying9 (by simp only [maxLen]; omega))
  have ha := get_at M k
  rw [show (.string (⟨#[]⟩ : ByteArray).data.toList : Lit) = .string [] from rfl, ha] at hv
  obtain ⟨s, rfl, hs⟩ := strElem_inv hv
  simp only [Prod.mk.injEq, DataW.lit.injEq, Lit.string.injEq] at hs
  rw [hr, WideShapes.bytes_inj hs.1]
theorem MapS.len {w : World} {m : Nat} {M : Cont} (h : MapS w m M) (ty : TypeId) : (Builtin.len_ #[118] ty #[.map (some m)]).run Tryz.prog w = .ok (.int .i64 M.length) w := by
  have := World.ownsMap.len (t := 118) (e := 9) h Tryz.underlying118 ty
  rwa [show Maps.size (contD M) = M.length from List.length_map _] at this
/-- A text laid: M' is what the map holds behind it. -/
theorem MapS.put {w : World} {m : Nat} {M M' : Cont} (h : MapS w m M) (k t : ByteArray) (hk : k.size ≤ 1000000) (hM : (contD M).put (.string k.data.toList) (.lit (.string t.data.toList)) = contD M') (hl : M.length < 1000) (ht : t.size ≤ maxLen) :
    ∃ w', (Instr.mapUpdate 118 (.map (some m)) (.string k) (.string t)).run Tryz.prog w = .ok () w' ∧ MapS w' m M' ∧ Chg (fun j => j = m) w w' := by
  obtain ⟨w', hr, ho, hg⟩ := World.ownsMap.update (t := 118) (e := 9) h law9 Tryz.underlying118 (by simp only [maxLen]; omega) (key := .string k) (kl := .string k.data.toList) (WideMaps.keyOf_string_mk Tryz.underlying9 (by simp only [maxLen]; omega)) (plainElem_string Tryz.underlying9 ht)
  rw [hM] at ho
  exact ⟨w', hr, MapS.of ho, Chg.of_grown hg (fun k e => by injection e with e; exact .inl e.symm)⟩
end Go.Proofs.YtnhdlclicjmmnaaGreat

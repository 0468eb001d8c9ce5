/- Opening arguments: slices of strings, slices of structs. (open_slice_fields: the kit's page of structs gives it to be copied.) -/
import Derived.Test.YtpdgkgdaaapngaaShF2
import Derived.SizedLaws
import Derived.Test.YtpdgkgdaaapngaaProg
import Derived.Deep.Slices
import Derived.Deep.Fields
import Derived.ChangeSame
import Derived.KernelRfl
import Derived.ProofKit
namespace Go.Proofs.Ytpdgkgdaaapngaa
open Go.ChangeShapes Go.WideShapes Go.Deep Go.RowKit
section
variable {H : Type} {enc : TypeId × Value → H} {P : Program} {w : World} {base : Nat} {spare : Nat → Bool} {held : Bool}
theorem open_slice_fields {t e : TypeId} {fs : Array Field} {fuel : Nat} {cs : List Value} {x : DataW H × List MemPlace} (ht : P.underlying t = some (.slice e)) (he : P.underlying e = some (.struct fs))
    (hone : oneCellFields P fs = true) (hC : P.cellsOf e = fs.size) (h : DataW.trod enc P w base spare held fuel t cs = some x) :
    (cs = [.slice none 0 0] ∧ x = (.nil, [])) ∨
    ∃ (a : Addr) (len cap m : Nat) (D : Nat → DataW H) (Pl : Nat → List MemPlace), cs = [.slice (some a) len cap] ∧ base ≤ a.block ∧ len ≤ cap ∧ cap ≤ maxLen ∧ m = (if spare a.block then cap else len) ∧
      x = (.slice ((List.range len).map D) ((List.range (m - len)).map fun j => D (len + j)), MemPlace.row a (m * fs.size) ++ (List.range m).flatMap Pl) ∧
      ∀ i, i < m → ∃ (ys : List (DataW H × List MemPlace)) (n : Nat), D i = .agg (ys.map (·.1)) ∧ Pl i = ys.flatMap (·.2) ∧ ys.length = fs.size ∧
        ∀ (j : Nat) (f : Field), fs[j]? = some f → ∃ (v : Value) (y : DataW H × List MemPlace), w.cell? (a.add (i * fs.size + j)) = some v ∧ ys[j]? = some y ∧ DataW.trod enc P w base spare held n f.type [v] = some y := by
  rcases open_slice ht h with h0 | ⟨a, len, cap, m, n, D, Pl, hcs, hb, hl, hm, hmm, hx, hi⟩
  · exact .inl h0
  · refine .inr ⟨a, len, cap, m, D, Pl, hcs, hb, hl, hm, hmm, by rw [hC] at hx; exact hx, fun i him => ?_⟩
    obtain ⟨cs', hc, ht'⟩ := hi i him
    rw [hC] at hc
    obtain ⟨ys, n', hn', hy, hlen, hyl, hf⟩ := DataW.trod_struct he ht'
    obtain ⟨_, hcl, hat⟩ := World.cells?_some hc
    simp only [Prod.mk.injEq] at hy
    refine ⟨ys, n', hy.1, hy.2, hyl, fun j f hj => ?_⟩
    obtain ⟨ho, hk⟩ := hone_of hone j f hj
    have hjl : j < fs.size := (Array.getElem?_eq_some_iff.1 hj).1
    have hcell := hat j hjl
    have hv : cs'[j]? = some (cs'[j]'(by omega)) := List.getElem?_eq_getElem (by omega)
    have h1 := hf j f hj
    rw [ho, hk] at h1
    have hone' : (cs'.drop j).take 1 = [cs'[j]'(by omega)] := by
      rw [List.drop_eq_getElem_cons (by omega)]
      rfl
    rw [hone'] at h1
    have hys : ys[j]? = some (ys[j]'(by omega)) := List.getElem?_eq_getElem (by omega)
    refine ⟨_, _, ?_, hys, h1.trans hys⟩
    rw [← Go.Deep.add_add, hcell, hv]
end

theorem listOf {α : Type} (p : Nat → α → Prop) : ∀ n, (∀ i, i < n → ∃ x, p i x) → ∃ l : List α, l.length = n ∧ ∀ (i : Nat) (x : α), l[i]? = some x → p i x
  | 0, _ => ⟨[], rfl, fun i x h => by simp at h⟩
  | n + 1, h => by
    obtain ⟨l, hl, hp⟩ := listOf p n fun i hi => h i (by omega)
    obtain ⟨x, hx⟩ := h n (by omega)
    refine ⟨l ++ [x], by simp [hl], fun i y hy => ?_⟩
    rcases Nat.lt_or_ge i n with hi | hi
    · rw [List.getElem?_append_left (by omega)] at hy
      exact hp i y hy
    · have hi' : i = n := by
        have := (List.getElem?_eq_some_iff.1 hy).1
        simp [hl] at this
        omega
      subst hi'
      rw [List.getElem?_append_right (by omega), hl] at hy
      simp at hy
      subst hy
      exact hx
theorem addField (a : Addr) (m j : Nat) (hj : 0 < j) : a.add (m + j) = ⟨(a.add m).block, (a.add m).off + j, none⟩ := by
  unfold Addr.add
  by_cases hm : m = 0
  · subst hm
    simp [Nat.ne_of_gt hj]
  · simp [hm, Nat.add_assoc]
theorem wf_u8 {k : Int} (h : (Lit.int .u8 k).wf = true) : 0 ≤ k ∧ k ≤ 255 := by
  simpa [Lit.wf, IntKind.min, IntKind.max, IntKind.signed, IntKind.bits] using h

theorem weights_all {H : Type} {P : Program} {e : TypeId} {d : DataW H} {n : Nat} : ∀ {l : List (DataW H)}, d ∈ l → n ∈ d.weights P e → n ∈ DataW.weightsAll P e l
  | x :: l, hd, hn => by
    simp only [DataW.weightsAll, List.mem_append]
    rcases List.mem_cons.1 hd with rfl | h
    · exact .inl hn
    · exact .inr (weights_all h hn)
def strDatum {H : Type} (s : ByteArray) : DataW H := .lit (.string s.data.toList)
theorem strs_data {H : Type} {enc : TypeId × Value → H} {w : World} {base : Nat} {spare : Nat → Bool} {held : Bool} {fuel : Nat} {cs : List Value} {x : DataW H × List MemPlace}
    (h : DataW.trod enc Try.prog w base spare held fuel 38 cs = some x) : ∃ A n c l, cs = [.slice A n c] ∧ n ≤ c ∧ l.length = n ∧ StrsIn w A l ∧ ((x.1 = .nil ∧ l = []) ∨ ∃ sp, x.1 = .slice (l.map strDatum) sp) := by
  rcases open_slice Try.underlying38 h with ⟨rfl, hx⟩ | ⟨a, len, cap, m, n, D, Pl, rfl, hb, hl, hm, hmm, hx, hi⟩
  · exact ⟨none, 0, 0, [], rfl, Nat.le_refl _, rfl, ⟨by simp, fun h => absurd h (by simp)⟩, .inl ⟨by rw [hx], rfl⟩⟩
  · have hC : Try.prog.cellsOf 9 = 1 := by kernel_rfl
    have hlm : len ≤ m := by rw [hmm]; split <;> omega
    obtain ⟨l, hll, hp⟩ := listOf (fun i (s : ByteArray) => w.cell? (a.add i) = some (.string s) ∧ D i = strDatum s) len fun i hlt => by
      obtain ⟨cs', hc, ht'⟩ := hi i (by omega)
      rw [hC] at hc
      obtain ⟨s, e0, z, _⟩ := DataW.trod_string Try.underlying9 ht'
      subst e0
      obtain ⟨_, _, hat⟩ := World.cells?_some hc
      have h1 := hat 0 (by omega)
      rw [Go.Deep.add_add, Nat.add_zero, Nat.mul_one] at h1
      injection z with z _
      exact ⟨s, by simpa using h1, z⟩
    refine ⟨_, _, _, l, rfl, hl, hll, ⟨by simp only [maxLen] at hm; omega, fun _ => ⟨a, rfl, fun j s hj => (hp j s hj).1⟩⟩, .inr ?_⟩
    rw [hx]
    refine ⟨(List.range (m - len)).map (fun j => D (len + j)), ?_⟩
    have key : (List.range len).map D = l.map strDatum := ?_
    · rw [key]
    apply List.ext_getElem
    · simp [hll]
    · intro j h1 h2
      simp only [List.getElem_map, List.getElem_range]
      exact (hp j _ (List.getElem?_eq_getElem (by simpa using h2))).2
theorem weight_str {H : Type} (s : ByteArray) : s.size ∈ DataW.weights (H := H) Try.prog 9 (strDatum s) := by
  simp [strDatum, DataW.weights]
theorem sized_strs {H : Type} {l : List ByteArray} {d : DataW H} {ds : List (DataW H)} {ts : List TypeId} {j : Nat} (hd : (d = .nil ∧ l = []) ∨ ∃ sp, d = .slice (l.map strDatum) sp) (hm : ds[j]? = some d) (ht : ts[j]? = some 38)
    (h : (DataW.weightsEach Try.prog ts ds).all (· ≤ reachBytes) = true) : ∀ s ∈ l, s.size ≤ 140737488351232 := by
  intro o ho
  rcases hd with ⟨_, rfl⟩ | ⟨sp, rfl⟩
  · cases ho
  · have h1 : o.size ∈ DataW.weights Try.prog 38 (DataW.slice (l.map strDatum) sp : DataW H) := by
      simp only [DataW.weights, Try.underlying38, List.mem_cons, List.mem_append]
      exact .inr (.inl (weights_all (List.mem_map.2 ⟨o, ho, rfl⟩) (weight_str o)))
    have h2 := List.all_eq_true.1 h _ (DataW.weights_mem_each ht hm _ h1)
    have h3 := of_decide_eq_true h2
    simpa [reachBytes] using h3
end Go.Proofs.Ytpdgkgdaaapngaa

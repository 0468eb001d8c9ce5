/- TopRejects: the library's variables; the library's functions by the shelf's contracts, in the words of Chg; tiles. -/
import Derived.Test.YtmbipabiagdaaaaGreatDoorShF2
import Derived.Test.YtmbipabiagdaaaaGreatDoorShelf
import Derived.Lib.AppendIntMem
import Derived.Lib.ItoaLen
namespace Go.Proofs.YtmbipabiagdaaaaGreatDoor
open Go.RowKit Go.Lib
theorem var_chg {w w1 : World} {n : String} {cs : Array Value} (h : w.var? Tryz.prog n = some cs) (c : Chg (fun _ => False) w w1) : w1.var? Tryz.prog n = some cs := by
  unfold World.var? at h ⊢
  cases hg : Program.globalNamed Tryz.prog n with
  | none => simp [hg] at h
  | some g =>
    simp only [hg, Option.bind_some] at h ⊢
    cases hb : w.heap[g]? with
    | none => simp [hb] at h
    | some o =>
      rw [c.block g (blkLt hb) (fun h => h)]
      exact h
/-- What the library's variables hold. -/
structure Glob (w : World) : Prop where
  most : ∃ m, w.cell? ⟨2, 0, none⟩ = some (.int .i64 m)
  syn : ∃ tp p, w.var? Tryz.prog "strconv.ErrSyntax" = some #[.iface tp p]
  rng : ∃ tp p, w.var? Tryz.prog "strconv.ErrRange" = some #[.iface tp p]
  tab : Lib.TabIs Tryz.prog w "internal/strconv.uint64pow10" .u64 Lib.pow10Tab
theorem Glob.chg {w w1 : World} (h : Glob w) (c : Chg (fun _ => False) w w1) : Glob w1 := by
  obtain ⟨⟨m, h1⟩, ⟨tp, p, h2⟩, ⟨tq, q, h3⟩, h4⟩ := h
  exact ⟨⟨m, cellChg h1 c (fun h => h)⟩, ⟨tp, p, var_chg h2 c⟩, ⟨tq, q, var_chg h3 c⟩, var_chg h4 c⟩
def strU (l : List UInt8) : ByteArray := ⟨l.toArray⟩
def itoaB (n : Int) : ByteArray := strU (Lib.itoa n)
theorem itoaB_size (n : Int) (h0 : -9223372036854775808 ≤ n) (h1 : n ≤ 9223372036854775807) : (itoaB n).size ≤ 21 := Lib.itoa_length_le n h0 h1
theorem itoa_calls (w : World) (hg : Glob w) (n : Int) (h0 : -9223372036854775808 ≤ n) (h1 : n ≤ 9223372036854775807) :
    Calls Tryz.prog 27 #[.int .i64 n] w fun e w' => e = .returned (.string (itoaB n)) ∧ Chg (fun _ => False) w w' :=
  (Tryz.strconv_Itoa n h0 h1 w hg.tab).mono fun e w' ⟨he, k, os, hw⟩ => ⟨he, by rw [hw]; exact Chg.of_below (below_grow _ w (Nat.le_refl _) k os) _⟩
/-- The number that Atoi hands back, and whether there is an error. -/
def atoiN (s : ByteArray) : Int := match Lib.atoiAll s.data.toList with
  | .ok v => v
  | .range => Lib.atoiSat s.data.toList
  | _ => 0
def atoiOk (s : ByteArray) : Prop := ∃ v, Lib.atoiAll s.data.toList = .ok v
theorem atoi_calls (w : World) (hg : Glob w) (s : ByteArray) (hs : s.size ≤ 281474976710656) :
    Calls Tryz.prog 15 #[.string s] w fun e w' => ∃ x, e = .returned (.tuple #[.int .i64 (atoiN s), x]) ∧ (x = .nilIface ∨ ∃ N, x = .iface 127 (.pointer (some ⟨N, 0, none⟩))) ∧ Chg (fun _ => False) w w' := by
  have hN : atoiN s = match Lib.atoiAll s.data.toList with | .ok v => v | .range => Lib.atoiSat s.data.toList | _ => 0 := rfl
  cases h : Lib.atoiAll s.data.toList with
  | ok v =>
    rw [h] at hN
    refine (Tryz.strconv_Atoi_ok s (by omega) v h w).mono fun e w' ⟨he, hw⟩ => ⟨.nilIface, by rw [hN]; exact he, .inl rfl, ?_⟩
    rcases hw with rfl | ⟨t, rfl⟩
    · exact Chg.refl _ _
    · exact Chg.of_below (Lib.bytesWorld_below w _ t) _
  | range =>
    rw [h] at hN
    obtain ⟨tp, p, hv⟩ := hg.rng
    exact (Tryz.strconv_Atoi_range_var s hs h tp p w hv).mono fun e w' ⟨N, he, _, _, hb⟩ => ⟨_, by rw [hN]; exact he, .inr ⟨N, rfl⟩, Chg.of_below hb _⟩
  | _ =>
    rw [h] at hN
    obtain ⟨tp, p, hv⟩ := hg.syn
    exact (Tryz.strconv_Atoi_syntax_var s hs (fun v e => by rw [h] at e; cases e) (fun e => by rw [h] at e; cases e) tp p w hv).mono fun e w' ⟨N, he, _, _, hb⟩ => ⟨_, by rw [hN]; exact he, .inr ⟨N, rfl⟩, Chg.of_below hb _⟩
end Go.Proofs.YtmbipabiagdaaaaGreatDoor

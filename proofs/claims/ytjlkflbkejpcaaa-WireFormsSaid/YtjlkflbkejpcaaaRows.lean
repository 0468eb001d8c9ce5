/-
  No cell of these rows narrows 'for every input' (looked for: loops, veiled, ifaces, maps, wideKeys, modest, calm, conditions, laid).
  DERIVED. THE GIVEN ROWS OF THIS SEAT. 8 by the template 'for every input the law returns true; each argument reads behind the call as it read before'; 0 by the template 'total and deterministic' (their statements: YtjlkflbkejpcaaaTotals.lean).
  GIVEN WITH THE SEED: the statements are not yours to turn. If you find one false, say at which input.
  Laid BY PROGRAM, IN A SANDBOX (cutbox-rows.mjs): the forced cells as the released guide's own fill.sh prints them over the translation 26a1d98ef6ad0885… (all of the seat's roots in one cut). By AI agents, Wed Nov 11 2026. No macro, syntax, notation, axiom, sorry.
-/
import Derived.Test.YtjlkflbkejpcaaaChecked
import GoSem.Claim
import GoSem.ClaimJoined
import GoSem.ClaimMapViews
import Derived.JoinedTies
import Derived.KernelRfl
namespace Go.Proofs.Ytjlkflbkejpcaaa
/- THE CELL 'sum', in the pinned program and in every row, IS THE sha256 OF THE DUMP (.gsa) THAT YtjlkflbkejpcaaaProg.lean LOADS. Nothing in Lean hashes anything: it is a label: what it is worth is what the hold of that sum in a sandbox is worth. -/
noncomputable def Try.pinned : Pinned := { name := "ytjlkflbkejpcaaa", sum := "26a1d98ef6ad0885196703860ac53b476e100da2fd9ba05c3d904c1f0856595f", checked := Try.checked }
namespace Rows
def none {H : Type} : Left H := { results := [], args := [] }

/-- 'ostlerlaw02.PackLays': WHATEVER THE INPUT: true; the input reads as it did. -/
def packLaysSpec : ChangeSpec := { name := "packLays", fn := fun _ => fun
  | [d] => { results := [.lit (.bool true)], args := [d] }
  | _ => none }
def packLaysRow : OpenClaim := { program := "ytjlkflbkejpcaaa", sum := "26a1d98ef6ad0885196703860ac53b476e100da2fd9ba05c3d904c1f0856595f", func := "ostler/ostlerlaw02.PackLays", spec := "packLays", apart := false }
def PackLaysSaid : Prop := packLaysRow.holds Try.pinned (OpenSpec.ofChange packLaysSpec)

/-- ITS FALSE NEIGHBOUR: 'it returns false'. Refute it at one input. -/
def packLaysWrong : ChangeSpec := { name := "packLays", fn := fun _ => fun
  | [d] => { results := [.lit (.bool false)], args := [d] }
  | _ => none }
def PackLaysWrongFalsely : Prop := packLaysRow.holds Try.pinned (OpenSpec.ofChange packLaysWrong)

/-- 'ostlerlaw19.WireFull': WHATEVER THE INPUT: true; the input reads as it did. -/
def wireFullSpec : ChangeSpec := { name := "wireFull", fn := fun _ => fun
  | [d1, d2] => { results := [.lit (.bool true)], args := [d1, d2] }
  | _ => none }
def wireFullRow : OpenClaim := { program := "ytjlkflbkejpcaaa", sum := "26a1d98ef6ad0885196703860ac53b476e100da2fd9ba05c3d904c1f0856595f", func := "ostler/ostlerlaw19.WireFull", spec := "wireFull", unfollowed := true, recurses := true, apart := false }
def WireFullSaid : Prop := wireFullRow.holds Try.pinned (OpenSpec.ofChange wireFullSpec)

/-- ITS FALSE NEIGHBOUR: 'it returns false'. Refute it at one input. -/
def wireFullWrong : ChangeSpec := { name := "wireFull", fn := fun _ => fun
  | [d1, d2] => { results := [.lit (.bool false)], args := [d1, d2] }
  | _ => none }
def WireFullWrongFalsely : Prop := wireFullRow.holds Try.pinned (OpenSpec.ofChange wireFullWrong)

/-- 'ostlerlaw02.PackNone': WHATEVER THE INPUT: true; the input reads as it did. -/
def packNoneSpec : ChangeSpec := { name := "packNone", fn := fun _ => fun
  | [d] => { results := [.lit (.bool true)], args := [d] }
  | _ => none }
def packNoneRow : OpenClaim := { program := "ytjlkflbkejpcaaa", sum := "26a1d98ef6ad0885196703860ac53b476e100da2fd9ba05c3d904c1f0856595f", func := "ostler/ostlerlaw02.PackNone", spec := "packNone", apart := false }
def PackNoneSaid : Prop := packNoneRow.holds Try.pinned (OpenSpec.ofChange packNoneSpec)

/-- ITS FALSE NEIGHBOUR: 'it returns false'. Refute it at one input. -/
def packNoneWrong : ChangeSpec := { name := "packNone", fn := fun _ => fun
  | [d] => { results := [.lit (.bool false)], args := [d] }
  | _ => none }
def PackNoneWrongFalsely : Prop := packNoneRow.holds Try.pinned (OpenSpec.ofChange packNoneWrong)

/-- 'ostlerlaw02.PackReads': WHATEVER THE INPUT: true; the input reads as it did. -/
def packReadsSpec : ChangeSpec := { name := "packReads", fn := fun _ => fun
  | [d1, d2] => { results := [.lit (.bool true)], args := [d1, d2] }
  | _ => none }
def packReadsRow : OpenClaim := { program := "ytjlkflbkejpcaaa", sum := "26a1d98ef6ad0885196703860ac53b476e100da2fd9ba05c3d904c1f0856595f", func := "ostler/ostlerlaw02.PackReads", spec := "packReads", apart := false }
def PackReadsSaid : Prop := packReadsRow.holds Try.pinned (OpenSpec.ofChange packReadsSpec)

/-- ITS FALSE NEIGHBOUR: 'it returns false'. Refute it at one input. -/
def packReadsWrong : ChangeSpec := { name := "packReads", fn := fun _ => fun
  | [d1, d2] => { results := [.lit (.bool false)], args := [d1, d2] }
  | _ => none }
def PackReadsWrongFalsely : Prop := packReadsRow.holds Try.pinned (OpenSpec.ofChange packReadsWrong)

/-- 'ostlerlaw02.PackBack': WHATEVER THE INPUT: true; the input reads as it did. -/
def packBackSpec : ChangeSpec := { name := "packBack", fn := fun _ => fun
  | [d] => { results := [.lit (.bool true)], args := [d] }
  | _ => none }
def packBackRow : OpenClaim := { program := "ytjlkflbkejpcaaa", sum := "26a1d98ef6ad0885196703860ac53b476e100da2fd9ba05c3d904c1f0856595f", func := "ostler/ostlerlaw02.PackBack", spec := "packBack", apart := false }
def PackBackSaid : Prop := packBackRow.holds Try.pinned (OpenSpec.ofChange packBackSpec)

/-- ITS FALSE NEIGHBOUR: 'it returns false'. Refute it at one input. -/
def packBackWrong : ChangeSpec := { name := "packBack", fn := fun _ => fun
  | [d] => { results := [.lit (.bool false)], args := [d] }
  | _ => none }
def PackBackWrongFalsely : Prop := packBackRow.holds Try.pinned (OpenSpec.ofChange packBackWrong)

/-- 'ostlerlaw19.WirePlays': WHATEVER THE INPUT: true; the input reads as it did. -/
def wirePlaysSpec : ChangeSpec := { name := "wirePlays", fn := fun _ => fun
  | [d] => { results := [.lit (.bool true)], args := [d] }
  | _ => none }
def wirePlaysRow : OpenClaim := { program := "ytjlkflbkejpcaaa", sum := "26a1d98ef6ad0885196703860ac53b476e100da2fd9ba05c3d904c1f0856595f", func := "ostler/ostlerlaw19.WirePlays", spec := "wirePlays", apart := false }
def WirePlaysSaid : Prop := wirePlaysRow.holds Try.pinned (OpenSpec.ofChange wirePlaysSpec)

/-- ITS FALSE NEIGHBOUR: 'it returns false'. Refute it at one input. -/
def wirePlaysWrong : ChangeSpec := { name := "wirePlays", fn := fun _ => fun
  | [d] => { results := [.lit (.bool false)], args := [d] }
  | _ => none }
def WirePlaysWrongFalsely : Prop := wirePlaysRow.holds Try.pinned (OpenSpec.ofChange wirePlaysWrong)

/-- 'ostlerlaw19.WireNone': WHATEVER THE INPUT: true; the input reads as it did. -/
def wireNoneSpec : ChangeSpec := { name := "wireNone", fn := fun _ => fun
  | [d1, d2] => { results := [.lit (.bool true)], args := [d1, d2] }
  | _ => none }
def wireNoneRow : OpenClaim := { program := "ytjlkflbkejpcaaa", sum := "26a1d98ef6ad0885196703860ac53b476e100da2fd9ba05c3d904c1f0856595f", func := "ostler/ostlerlaw19.WireNone", spec := "wireNone", apart := false }
def WireNoneSaid : Prop := wireNoneRow.holds Try.pinned (OpenSpec.ofChange wireNoneSpec)

/-- ITS FALSE NEIGHBOUR: 'it returns false'. Refute it at one input. -/
def wireNoneWrong : ChangeSpec := { name := "wireNone", fn := fun _ => fun
  | [d1, d2] => { results := [.lit (.bool false)], args := [d1, d2] }
  | _ => none }
def WireNoneWrongFalsely : Prop := wireNoneRow.holds Try.pinned (OpenSpec.ofChange wireNoneWrong)

/-- 'ostlerlaw19.WireForms': WHATEVER THE INPUT: true; the input reads as it did. -/
def wireFormsSpec : ChangeSpec := { name := "wireForms", fn := fun _ => fun
  | [d1, d2, d3] => { results := [.lit (.bool true)], args := [d1, d2, d3] }
  | _ => none }
def wireFormsRow : OpenClaim := { program := "ytjlkflbkejpcaaa", sum := "26a1d98ef6ad0885196703860ac53b476e100da2fd9ba05c3d904c1f0856595f", func := "ostler/ostlerlaw19.WireForms", spec := "wireForms", unfollowed := true, recurses := true, apart := false }
def WireFormsSaid : Prop := wireFormsRow.holds Try.pinned (OpenSpec.ofChange wireFormsSpec)

/-- ITS FALSE NEIGHBOUR: 'it returns false'. Refute it at one input. -/
def wireFormsWrong : ChangeSpec := { name := "wireForms", fn := fun _ => fun
  | [d1, d2, d3] => { results := [.lit (.bool false)], args := [d1, d2, d3] }
  | _ => none }
def WireFormsWrongFalsely : Prop := wireFormsRow.holds Try.pinned (OpenSpec.ofChange wireFormsWrong)

/- THE SECOND FORM. 'bulk': how many values and letters a reading holds, each counted each time it is reached (what is shared counts as often as it is met; a slice's spare places count too). A statement '..UptoSaid' is the law's where the arguments, and the package variables that the reading takes, are together of bulk at most 1048576: NARROWER than '..Said'. Prove '..Said' where nothing that the law and all that it calls make is longer than what came in: it says more and counts as full. Else prove '..UptoSaid'. A law counts once. -/
mutual
def uptoBulk {H : Type} : DataW H → Nat
  | .lit (.string bytes) => bytes.length + 1
  | .lit _ => 1
  | .nil => 1
  | .ptr d => uptoBulk d + 1
  | .slice elems spare => uptoBulkAll elems + uptoBulkAll spare + 1
  | .agg parts => uptoBulkAll parts + 1
  | .iface _ d => uptoBulk d + 1
  | .map entries => uptoBulkEntries entries + 1
  | .held _ => 1
def uptoBulkAll {H : Type} : List (DataW H) → Nat
  | [] => 0
  | d :: r => uptoBulk d + uptoBulkAll r
def uptoBulkEntries {H : Type} : List (Lit × DataW H) → Nat
  | [] => 0
  | x :: r => uptoBulkEntry x + uptoBulkEntries r
def uptoBulkEntry {H : Type} : Lit × DataW H → Nat
  | (.string bytes, d) => bytes.length + uptoBulk d + 1
  | (_, d) => uptoBulk d + 1
 end
def uptoSmall : (H : Type) → List (DataW H) → Bool := fun _ ds => decide (uptoBulkAll ds ≤ 1048576)
def OpenSpec.upto (s : _root_.Go.ChangeSpec) : _root_.Go.OpenSpec := { _root_.Go.OpenSpec.ofChange s with cond := some uptoSmall }

/-- 'ostlerlaw02.PackLays', WHERE WHAT IT READS IS OF BULK AT MOST 1048576: true; the input reads as it did. -/
def packLaysUptoRow : OpenClaim := { program := "ytjlkflbkejpcaaa", sum := "26a1d98ef6ad0885196703860ac53b476e100da2fd9ba05c3d904c1f0856595f", func := "ostler/ostlerlaw02.PackLays", spec := "packLays", apart := false, narrowed := true }
def PackLaysUptoSaid : Prop := packLaysUptoRow.holds Try.pinned (OpenSpec.upto packLaysSpec)

/-- 'ostlerlaw19.WireFull', WHERE WHAT IT READS IS OF BULK AT MOST 1048576: true; the input reads as it did. -/
def wireFullUptoRow : OpenClaim := { program := "ytjlkflbkejpcaaa", sum := "26a1d98ef6ad0885196703860ac53b476e100da2fd9ba05c3d904c1f0856595f", func := "ostler/ostlerlaw19.WireFull", spec := "wireFull", unfollowed := true, recurses := true, apart := false, narrowed := true }
def WireFullUptoSaid : Prop := wireFullUptoRow.holds Try.pinned (OpenSpec.upto wireFullSpec)

/-- 'ostlerlaw02.PackNone', WHERE WHAT IT READS IS OF BULK AT MOST 1048576: true; the input reads as it did. -/
def packNoneUptoRow : OpenClaim := { program := "ytjlkflbkejpcaaa", sum := "26a1d98ef6ad0885196703860ac53b476e100da2fd9ba05c3d904c1f0856595f", func := "ostler/ostlerlaw02.PackNone", spec := "packNone", apart := false, narrowed := true }
def PackNoneUptoSaid : Prop := packNoneUptoRow.holds Try.pinned (OpenSpec.upto packNoneSpec)

/-- 'ostlerlaw02.PackReads', WHERE WHAT IT READS IS OF BULK AT MOST 1048576: true; the input reads as it did. -/
def packReadsUptoRow : OpenClaim := { program := "ytjlkflbkejpcaaa", sum := "26a1d98ef6ad0885196703860ac53b476e100da2fd9ba05c3d904c1f0856595f", func := "ostler/ostlerlaw02.PackReads", spec := "packReads", apart := false, narrowed := true }
def PackReadsUptoSaid : Prop := packReadsUptoRow.holds Try.pinned (OpenSpec.upto packReadsSpec)

/-- 'ostlerlaw02.PackBack', WHERE WHAT IT READS IS OF BULK AT MOST 1048576: true; the input reads as it did. -/
def packBackUptoRow : OpenClaim := { program := "ytjlkflbkejpcaaa", sum := "26a1d98ef6ad0885196703860ac53b476e100da2fd9ba05c3d904c1f0856595f", func := "ostler/ostlerlaw02.PackBack", spec := "packBack", apart := false, narrowed := true }
def PackBackUptoSaid : Prop := packBackUptoRow.holds Try.pinned (OpenSpec.upto packBackSpec)

/-- 'ostlerlaw19.WirePlays', WHERE WHAT IT READS IS OF BULK AT MOST 1048576: true; the input reads as it did. -/
def wirePlaysUptoRow : OpenClaim := { program := "ytjlkflbkejpcaaa", sum := "26a1d98ef6ad0885196703860ac53b476e100da2fd9ba05c3d904c1f0856595f", func := "ostler/ostlerlaw19.WirePlays", spec := "wirePlays", apart := false, narrowed := true }
def WirePlaysUptoSaid : Prop := wirePlaysUptoRow.holds Try.pinned (OpenSpec.upto wirePlaysSpec)

/-- 'ostlerlaw19.WireNone', WHERE WHAT IT READS IS OF BULK AT MOST 1048576: true; the input reads as it did. -/
def wireNoneUptoRow : OpenClaim := { program := "ytjlkflbkejpcaaa", sum := "26a1d98ef6ad0885196703860ac53b476e100da2fd9ba05c3d904c1f0856595f", func := "ostler/ostlerlaw19.WireNone", spec := "wireNone", apart := false, narrowed := true }
def WireNoneUptoSaid : Prop := wireNoneUptoRow.holds Try.pinned (OpenSpec.upto wireNoneSpec)

/-- 'ostlerlaw19.WireForms', WHERE WHAT IT READS IS OF BULK AT MOST 1048576: true; the input reads as it did. -/
def wireFormsUptoRow : OpenClaim := { program := "ytjlkflbkejpcaaa", sum := "26a1d98ef6ad0885196703860ac53b476e100da2fd9ba05c3d904c1f0856595f", func := "ostler/ostlerlaw19.WireForms", spec := "wireForms", unfollowed := true, recurses := true, apart := false, narrowed := true }
def WireFormsUptoSaid : Prop := wireFormsUptoRow.holds Try.pinned (OpenSpec.upto wireFormsSpec)

end Rows
end Go.Proofs.Ytjlkflbkejpcaaa

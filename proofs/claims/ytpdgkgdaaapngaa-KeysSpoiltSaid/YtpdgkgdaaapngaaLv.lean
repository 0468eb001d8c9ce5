/- From the run of one goroutine to the rows that say 'leaving' and let the clock go on. -/
import Derived.Test.YtpdgkgdaaapngaaBase
import Derived.Conc.HoldsTime
import Derived.Leaving
namespace Go.Proofs.Ytpdgkgdaaapngaa
open Go.Conc Go.ConcM
theorem leaving_of_alone {P : Program} {last : Machine} {w : World} {t : Trace} (h : aloneAtReturn P last w t) : leavingAtReturn P last w t := ⟨h.2.1, onlyLeaving_of_quiet h.1, h.2.2⟩
theorem postWith_of_still {H : Type} {enc : TypeId × Value → H} {P : Program} {f : Func} {s : ChangeSpec} {F : Stop.Interp} {apart fresh handsOn : Bool} {W W' : World} {args : Array Value} {v : Value}
    (h : s.post enc P f apart fresh handsOn false W args v W') : (OpenSpec.ofChange s).postWith enc P f F (outsideKept [.timePasses]) apart fresh handsOn W args v W' := by
  obtain ⟨ds, gs, before, pr, pa, pv, h1, h2, h3, h4, h5, _⟩ := h
  exact ⟨ds, gs, before, pr, pa, pv, h1, h2, h3, h4, leftAs_later (by rw [h5.1]; exact OsLater.refl _), h5.2⟩
theorem leaving_of_handed {H : Type} {enc : TypeId × Value → H} {a : Assume} {C : Checked} {os : Os} {f : FuncId} {fn : Func} {s : ChangeSpec} {F : Stop.Interp} {conds : List PathCond} {apart fresh handsOn : Bool}
    (h : ReturnsInHanded a C os f .any (s.pre6 enc C.prog fn conds apart) (s.post enc C.prog fn apart fresh handsOn false)) :
    ReturnsInLeavingWide a C os f .any (s.pre6 enc C.prog fn conds apart) ((OpenSpec.ofChange s).postWith enc C.prog fn F (outsideKept [.timePasses]) apart fresh handsOn) := fun enter => by
  obtain ⟨a1, a2, a3, a4, a5⟩ := h enter
  refine ⟨a1, a2, a3, a4, fun w tape i hf => ?_⟩
  obtain ⟨n, v, w', hn, hc, hr, hp, ⟨j, last, hj, hs, hret⟩, hal⟩ := a5 w tape i hf
  exact ⟨n, v, w', hn, hc, hr, postWith_of_still hp, ⟨j, last, hj, hs, leaving_of_alone hret⟩, hal⟩
end Go.Proofs.Ytpdgkgdaaapngaa

/- TopRejects: the wrap for a row with a condition of the specification's own, a list under 'laid', and the world's shape handed to the contract. -/
import Derived.JoinedCond
import Derived.HandedShaped
import Derived.SizedLaws
import Derived.Test.YtmbipabiagdaaaaGreatDoorRows
import Derived.Test.YtmbipabiagdaaaaGreatDoorTjA
import Derived.Lib.LaidU8
import Derived.Lib.LaidTab
import Derived.LaidLaws
import Derived.LaidHandle
import Derived.Shelf.Vars
import Derived.MakeChecks
import Derived.Shelf.Lay
import Derived.Test.YtmbipabiagdaaaaGreatDoorTlT
import Derived.Test.YtmbipabiagdaaaaGreatDoorTlR
import Derived.WalkKit
import Derived.ProofKit
import Derived.OpenShut
import Derived.ShutString
import Derived.ChangeOld
import Derived.Below
import Derived.Lib.SmallJoins
import Derived.Lay
import Derived.Test.YtmbipabiagdaaaaGreatDoorTie
import Derived.Test.YtmbipabiagdaaaaGreatDoorCards
import Derived.SevenTiedAt
namespace Go.Proofs.YtmbipabiagdaaaaGreatDoor
section
variable {H : Type} {enc : TypeId × Value → H}
theorem returnsInHanded_of_cond_and {a : Assume} {C : Checked} {os : Os} {f : FuncId} {fn : Func} {s : OpenSpec} {k : (H : Type) → List (DataW H) → Bool} (hk : s.cond = some k) {F : Stop.Interp} {conds : List PathCond} {apart fresh handsOn again : Bool} {X : World → Prop}
    (hX : ∀ (w w' : World), w.heap = w'.heap → X w → X w')
    (own : ownKnob C.prog.godebug = none) (started : os.Started) (noInit : C.prog.inits.idxOf? f = none) (hfn : C.prog.funcs[f]? = some fn)
    (witness : ∃ (w : World) (tape : Tape) (i : Input), w.os = os ∧ (w.forCall tape i).Shaped C.prog ∧ i.vars = [] ∧ Input.okWide C.prog (w.forCall tape i) .any w.heap.size f i ∧
      ((s.pre enc C.prog fn conds apart (w.forCall tape i).memory i.args ∧ X (w.forCall tape i).memory) ∧ sizedMet enc C.prog fn s apart (w.forCall tape i).memory i.args) ∧ a.holds C.prog (lone (Frame.enter C.prog f i.args .normal) [] (w.forCall tape i)))
    (contract : ∀ (W : World) (base : Nat) (args : Array Value) (ds gs : List (DataW H)) (before : List MemPlace),
      (∀ (j : Nat) t v, fn.params[j]? = some t → args[j]? = some v → Value.okWide C.prog W .any base t v) →
      DataW.Whole enc C.prog fn.params.toList s.vars apart W args.toList ds gs before →
      conds.all (PathCond.test C.prog ⟨fn.params.toList, ds, s.bare.plain.varTypes C.prog, gs⟩) = true → k H (ds ++ gs) = true → X W → W.ShapedOpen C.prog →
      Calls C.prog f args W fun e W' => ∃ v, e = .returned v ∧ (s.at F).post enc C.prog fn apart fresh handsOn again W args v W') :
    ReturnsInHanded a C os f .any (fun w args => (s.pre enc C.prog fn conds apart w args ∧ X w) ∧ sizedMet enc C.prog fn s apart w args) ((s.at F).post enc C.prog fn apart fresh handsOn again) := by
  refine returnsInHanded_of_calls own started noInit witness ?_
  intro w tape i _ hsh _ hok hpre _
  obtain ⟨_, _, _, fn', hfn', _, _, _, _, hval⟩ := hok
  have e : fn' = fn := Option.some.inj (hfn'.symm.trans hfn)
  subst e
  obtain ⟨ds, gs, before, hw, hc, hkk⟩ := (OpenSpec.pre_some hk conds apart _ _).1 hpre.1.1
  have hw' := DataW.Whole.of_heap (w' := w.forCall tape i) (by rfl) hw
  refine (contract (w.forCall tape i) w.heap.size i.args ds gs before hval hw' hc hkk (hX _ _ (by rfl) hpre.1.2) hsh).mono fun e W' ⟨v, he, hp⟩ => ?_
  subst he
  exact ChangeSpec.post_blind hp
end
end Go.Proofs.YtmbipabiagdaaaaGreatDoor
/- TopRejects: what the row's listed variables give the walk. -/
namespace Go.Proofs.YtmbipabiagdaaaaGreatDoor
open Go.RowKit Go.Lib Go.Shelf
theorem iface_of_reads {W : World} {nm : String} {name : String} {d : DataW Unit} (h : VarReads Tryz.prog W nm (.iface name d)) (hu : ∀ g t, Tryz.prog.globalNamed nm = some g → (Tryz.prog.globals[g]?).map (·.type) = some t → ∃ ms, Tryz.prog.underlying t = some (.interface ms)) :
    ∃ tp p, W.var? Tryz.prog nm = some #[.iface tp p] := by
  obtain ⟨g, t, cs, fuel, p, hg, ht, hv, hd⟩ := h
  obtain ⟨ms, hms⟩ := hu g t hg ht
  obtain ⟨_, u, v, e, _, _⟩ := iface_of_trod hms hd
  refine ⟨u, v, ?_⟩
  rw [hv, Array.eq_one_of_toList e]
theorem glob_of_laid {W : World} (hL : laidMetH Tryz.prog Rows.topRejectsUptoRow.laid W) (hS : W.ShapedOpen Tryz.prog) : Glob W := by
  rw [MakeChecks.laidMetH_plain _ _ _ (by kernel_rfl)] at hL
  have r1 : VarReads Tryz.prog W "strconv.ErrSyntax" Rows.laid_strconv_ErrSyntax := Lib.laidMet.reads hL (by simp [Rows.topRejectsUptoRow])
  have r2 : VarReads Tryz.prog W "strconv.ErrRange" Rows.laid_strconv_ErrRange := Lib.laidMet.reads hL (by simp [Rows.topRejectsUptoRow])
  have r3 : VarReads Tryz.prog W "internal/strconv.uint64pow10" Rows.laid_internal_strconv_uint64pow10 := Lib.laidMet.reads hL (by simp [Rows.topRejectsUptoRow])
  refine ⟨?_, iface_of_reads r1 ?_, iface_of_reads r2 ?_, ?_⟩
  · exact cell_of_shapedOpen_int (t := 3) (zero := #[.int .i64 0]) hS (of_decide_eq_true (by kernel_rfl)) (by kernel_rfl) rfl (by kernel_rfl) (by kernel_rfl) Tryz.underlying3
  · intro g t hg ht
    obtain rfl := Option.some.inj ((show Tryz.prog.globalNamed "strconv.ErrSyntax" = some 0 by kernel_rfl).symm.trans hg)
    obtain rfl := Option.some.inj ((show (Tryz.prog.globals[(0 : Nat)]?).map (·.type) = some 58 by kernel_rfl).symm.trans ht)
    exact ⟨_, Tryz.underlying58⟩
  · intro g t hg ht
    obtain rfl := Option.some.inj ((show Tryz.prog.globalNamed "strconv.ErrRange" = some 1 by kernel_rfl).symm.trans hg)
    obtain rfl := Option.some.inj ((show (Tryz.prog.globals[(1 : Nat)]?).map (·.type) = some 58 by kernel_rfl).symm.trans ht)
    exact ⟨_, Tryz.underlying58⟩
  · obtain ⟨g, t, cs, fuel, p, hg, ht, hv, hd⟩ := r3
    obtain rfl := Option.some.inj ((show Tryz.prog.globalNamed "internal/strconv.uint64pow10" = some 5 by kernel_rfl).symm.trans hg)
    obtain rfl := Option.some.inj ((show (Tryz.prog.globals[(5 : Nat)]?).map (·.type) = some 178 by kernel_rfl).symm.trans ht)
    have hd2 : DataW.trod (fun _ => ()) Tryz.prog W 0 (fun _ => true) false fuel 178 cs.toList = some (tabData .u64 Lib.pow10Tab, p) := hd
    unfold TabIs
    rw [hv, ← cells_of_tab Tryz.underlying178 Tryz.underlying151 (by kernel_rfl) (by kernel_rfl) hd2]
end Go.Proofs.YtmbipabiagdaaaaGreatDoor
/- TopRejects: the row's statement, where what comes in is of bulk at most 1048576. -/
namespace Go.Proofs.YtmbipabiagdaaaaGreatDoor.topRejectsUpto
open Go.ChangeShapes Go.WideShapes Go.ChangeAt Go.RowKit Go.Joins
open Go.ChangeMaps (open_string shut_string)
set_option linter.unusedVariables false
theorem own : ownKnob Tryz.prog.godebug = none := by kernel_rfl
theorem laidOut : laidOutB Tryz.prog = true := by kernel_rfl
set_option maxRecDepth 100000 in
theorem lifted (os : Os) (started : os.Started) (H : Type) (enc : TypeId × Value → H) (F : Stop.Interp) :
    ReturnsInHanded {} Tryz.checked os 3 .any (fun w args => ((Rows.OpenSpec.upto Rows.topRejectsSpec).pre enc Tryz.prog Tryz.f3 Rows.topRejectsUptoRow.domain false w args ∧ laidMetH Tryz.prog Rows.topRejectsUptoRow.laid w) ∧ sizedMet enc Tryz.prog Tryz.f3 (Rows.OpenSpec.upto Rows.topRejectsSpec) false w args)
      (((Rows.OpenSpec.upto Rows.topRejectsSpec).at F).post enc Tryz.prog Tryz.f3 false true false false) := by
  refine returnsInHanded_of_cond_and (C := Tryz.checked) (s := Rows.OpenSpec.upto Rows.topRejectsSpec) (k := Rows.uptoSmall) rfl (X := fun w => laidMetH Tryz.prog Rows.topRejectsUptoRow.laid w) (fun _ _ hh h => h.of_heap hh) own started (by kernel_rfl) Tryz.func3
    ⟨World.laidAll Tryz.prog os Rows.topRejectsUptoRow.laid, fun _ _ => 0, ⟨#[], #[.string ⟨#[]⟩], []⟩, World.laidAll_os _ _ _, World.shaped_of_ZipB (by kernel_rfl) (by kernel_rfl), rfl, (Input.okWide_of_okWideB (by kernel_rfl)).2,
      ⟨⟨(OpenSpec.pre_some rfl _ _ _ _).2 ⟨[.lit (.string [])], [], [], DataW.Whole_of_whole (x := ([.lit (.string [])], [], [])) (fuel := 8) (by kernel_rfl), rfl, by kernel_rfl⟩, by rw [MakeChecks.laidMetH_plain _ _ _ (by kernel_rfl)]; exact laidMet_laidAll _ (by kernel_rfl) (by kernel_rfl)⟩, sizedMet_of_sizedB (fuel := 8) (by kernel_rfl)⟩, by
        simp only [Assume.holds]
        exact ⟨by simp, by simp, fun _ => Modest.zero, by simp, by simp⟩⟩ ?_
  intro W base args ds gs before hval0 hW hcnd hk hL hS
  have hval : ∀ (j : Nat) t v, Tryz.f3.params[j]? = some t → args[j]? = some v → Value.okWide Tryz.prog W .any base t v := hval0
  have hW' := hW
  obtain ⟨p, q, hA0, hV, rfl, hfz, hnd⟩ := hW
  have hA : DataW.TrodAll enc Tryz.prog W 0 (fun _ => true) true Tryz.f3.params.toList args.toList ds p := hA0
  rw [Tryz.params3] at hA hval
  obtain ⟨v0, vs0, d0, ds0, p0, q0, hargs, rfl, rfl, h0, r0⟩ := trodAll_cons hA
  obtain ⟨rfl, rfl, rfl⟩ := trodAll_nil r0
  obtain rfl : args = #[v0] := by cases args; simp_all
  obtain ⟨rfl, rfl⟩ := trodVars_none hV
  have k0 := h0
  have lt0 : ∀ x ∈ p0, x.block < W.heap.size := by obtain ⟨m, hm⟩ := k0; exact DataW.trod_lt m _ _ _ hm
  obtain ⟨s, rfl, rfl, rfl, y0⟩ := open_string Tryz.underlying9 (hval 0 9 v0 rfl rfl) h0
  have hs : s.size ≤ 1048576 := by
    have z : Rows.uptoBulkAll [(DataW.lit (.string s.data.toList) : DataW H)] ≤ 1048576 := of_decide_eq_true hk
    simp only [Rows.uptoBulkAll, Rows.uptoBulk, Array.length_toList] at z
    have : s.data.size = s.size := rfl
    omega
  clear hA0 hval0
  refine (top_calls (fun w hg s hs => Read_calls w hg s hs) W (glob_of_laid hL hS) s hs).mono fun e W' ⟨he, hc⟩ => ?_
  subst he
  have bel : Below W.heap.size W W' := hc.below (fun _ hk => hk.elim) (Nat.le_refl _)
  exact ⟨_, rfl, _, _, _, [], _, [], hW', trodAll_mk1 (shut_bool Tryz.underlying4 _), (trodAll_cons_mk (Below.trod laidOut (by kernel_rfl) (of_decide_eq_true (by kernel_rfl)) k0 bel lt0) trodAll_mk0), rfl, bel.frame _, fun h => by cases h⟩
theorem over : Rows.topRejectsUptoRow.holds Tryz.pinned (Rows.OpenSpec.upto Rows.topRejectsSpec) :=
  OpenClaim.holds_of_cond 3 Tryz.f3 rfl rfl rfl rfl rfl rfl rfl ⟨rfl, rfl, rfl, rfl, rfl⟩ rfl rfl rfl rfl rfl (by kernel_rfl) Tryz.func3 (by kernel_rfl)
    (of_decide_eq_true (by kernel_rfl)) (by unfold Func.isWrapper; first | (rw [if_pos (by decide +kernel)]; kernel_rfl) | (rw [if_neg (by decide +kernel)]; exact ⟨rfl, rfl⟩))
    (fun os started H enc _ F => lifted os started H enc F)
theorem proved : Rows.TopRejectsUptoSaid := over
#print axioms proved
end Go.Proofs.YtmbipabiagdaaaaGreatDoor.topRejectsUpto
/- TopRejects: the tied card of the row where what comes in is of bulk at most 1048576. -/
namespace Go.Proofs.YtmbipabiagdaaaaGreatDoor
open Go
set_option maxRecDepth 100000 in
theorem topRejectsUptoCard_holds : Rows.TopRejectsUptoCardSaid :=
  Claim7.holds_tied_plain_at .later [] [.data, .data, .data, .data, .sentinel, .sentinel, .pinned] true (true, "f0688eea29ae4b8faffbede6ff2dc7f65acf670a8d2614bbb01c4a4665d092a2") true
    topRejectsUpto.proved (fun _ h => by cases h) (by kernel_rfl) (fun _ h => by cases h) topRejectsUpto_row_tie rfl ⟨rfl, rfl⟩ (by kernel_rfl) rfl
    (fun f fn hf hfn => by
      obtain rfl : f = 3 := Option.some.inj ((show Tryz.prog.funcNamed "ostler/ostlertop.TopRejects" = some 3 by kernel_rfl).symm.trans hf) |>.symm
      obtain rfl : fn = Tryz.f3 := (Option.some.inj (Tryz.func3.symm.trans hfn)).symm
      exact ⟨by kernel_rfl, fun j t ht => by
        rw [Tryz.params3] at ht
        have h3 : t = 9 := by
          rcases j with _ | j
          · simpa using ht.symm
          · simp at ht
        subst h3
        exact (show Tryz.prog.wantsStandIn 9 = false by kernel_rfl)⟩)
    (by kernel_rfl)
#print axioms topRejectsUptoCard_holds
end Go.Proofs.YtmbipabiagdaaaaGreatDoor

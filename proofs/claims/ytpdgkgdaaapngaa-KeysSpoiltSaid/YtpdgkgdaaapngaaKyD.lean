/- Keys: sync.Once, in one goroutine: the first time, and again. -/
import Derived.Test.YtpdgkgdaaapngaaKyX
import Derived.Defers
import Derived.Laws.Pointers
import Derived.Laws.LoneSync
import Derived.RegionTactic
import Derived.RegionCalls
import Derived.ChangeAlike
namespace Go.Proofs.Ytpdgkgdaaapngaa
open Go.RowKit
theorem mDisable (w : World) : (callFunc 68 #[]).run Try.prog w = .ok (.value (.tuple #[])) w := run_call_mark0 Try.func68 (by kernel_rfl) (by kernel_rfl) (by kernel_rfl) .disable (by kernel_rfl) w
theorem mEnable (w : World) : (callFunc 69 #[]).run Try.prog w = .ok (.value (.tuple #[])) w := run_call_mark0 Try.func69 (by kernel_rfl) (by kernel_rfl) (by kernel_rfl) .enable (by kernel_rfl) w
theorem mAcquire (a : Addr) (w : World) : (callFunc 81 #[.pointer (some a)]).run Try.prog w = .ok (.value (.tuple #[])) w := run_call_marked Try.func81 (by kernel_rfl) (by kernel_rfl) (by kernel_rfl) .acquire (by kernel_rfl) a w
theorem mReleaseMerge (a : Addr) (w : World) : (callFunc 67 #[.pointer (some a)]).run Try.prog w = .ok (.value (.tuple #[])) w := run_call_marked Try.func67 (by kernel_rfl) (by kernel_rfl) (by kernel_rfl) .releaseMerge (by kernel_rfl) a w
theorem store_deferred (a : Addr) (x : Value) (u : FrameMode) (w : World) (hc : w.cell? a = some x) (hz : w.frozen? a = false) :
    CallsD Try.prog 111 #[.pointer (some a), .bool true] u w fun e u' w' => u' = u ∧ (e = .returned (.tuple #[]) ∧ w' = w.drew.setCell a (.int .u32 1)) := by
  have hc' : w.drew.cell? a = some x := by go_simp
  have hz' : w.drew.frozen? a = false := by go_simp
  have hst := run_call_store (P := Try.prog) Try.func115 (by kernel_rfl) (by kernel_rfl) (by kernel_rfl) (by kernel_rfl) (k := .u32) (y := 1) hc' hz'
  go_enter_d Try.func111, Try.ntmps111
  go_wp2
  go_region_calls
  all_goals (go_end0; exact ⟨rfl, rfl⟩)
set_option maxRecDepth 100000 in
theorem unlock_deferred (a : Addr) (u : FrameMode) (w : World) (hc : w.cell? a = some (.int .i32 1)) (hz : w.frozen? a = false) :
    CallsD Try.prog 110 #[.pointer (some a)] u w fun e u' w' => u' = u ∧ (e = .returned (.tuple #[]) ∧ w' = w.setCell a (.int .i32 0)) := by
  have hd := mDisable
  have he := mEnable
  have hr := mReleaseMerge
  have hadd := run_call_add (P := Try.prog) Try.func119 (by kernel_rfl) (by kernel_rfl) (by kernel_rfl) .i32 (by kernel_rfl) (y := -1) (s := 0) hc hz (by simp [go_sem]; rfl)
  have hcv := run_convert_to_unsafe (P := Try.prog) (src := 157) (dst := 117) Try.underlying157 Try.underlying117 (by kernel_rfl) hc
  go_enter_d Try.func110, Try.ntmps110
  go_wp2
  go_end0
  go_wp2
  go_end0
  exact ⟨rfl, rfl⟩
set_option maxRecDepth 100000 in
theorem lock_free (a : Addr) (w : World) (hc : w.cell? a = some (.int .i32 0)) (hz : w.frozen? a = false) :
    Calls Try.prog 109 #[.pointer (some a)] w fun e w' => e = .returned (.tuple #[]) ∧ w' = w.setCell a (.int .i32 1) := by
  have hd := mDisable
  have he := mEnable
  have ha := mAcquire
  have hcas := run_call_cas_hit (P := Try.prog) Try.func117 (by kernel_rfl) (by kernel_rfl) (by kernel_rfl) .i32 (by kernel_rfl) (y := 1) hc hz
  have hc' : (w.setCell a (.int .i32 1)).cell? a = some (.int .i32 1) := World.cell?_setCell_same w a _ hc
  have hcv := run_convert_to_unsafe (P := Try.prog) (src := 157) (dst := 117) Try.underlying157 Try.underlying117 (by kernel_rfl) hc'
  go_enter Try.func109, Try.ntmps109
  go_wp2
  first | go_end0 | (simp only [Exit.inBlock, Exit.then]; refine bodyPost_ret (results_none rfl _ _ _) rfl ?_) | refine bodyPost_ret (results_none rfl _ _ _) rfl ?_
  go_wp2
  go_end0
  exact ⟨rfl, rfl⟩
set_option maxRecDepth 100000 in
set_option maxHeartbeats 1600000 in
theorem slow_calls (w : World) (b p : Nat) (seed : ByteArray) (h : Nat) (u lv0 : Value) (hs : seed.size ≤ 140737488351232) (hh : h ≤ 4)
    (hb : w.heap[b]? = some (.cells (kcellsK seed h (.int .u32 0) (.int .i32 0) (.int .u32 0) lv0 u) 83 (0, 0))) (hp : w.heap[p]? = some (.cells #[.pointer (some ⟨b, 0, none⟩)] 39 (0, 0))) :
    Calls Try.prog 98 #[.pointer (some ⟨b, 2, none⟩), .func (.func 64) #[] #[.pointer (some ⟨p, 0, none⟩)]] w fun e w' => e = .returned (.tuple #[]) ∧ ∃ lv r, w'.heap[b]? = some (.cells (kcellsK seed h (.int .u32 1) (.int .i32 0) (.int .u32 0) lv u) 83 (0, 0)) ∧ LevelsAt w' lv r (lev seed h) (h + 1) ∧ Chg (fun k => k = b) w w' := by
  have HNE : Hid (p ≠ b) := Lib.hid (blkNe hp hb (by decide))
  have c3 : w.cell? ⟨b, 3, none⟩ = some (.int .i32 0) := blkCell hb 3
  have z3 := blkFree hb 3
  have hb1 : (w.setCell ⟨b, 3, none⟩ (.int .i32 1)).heap[b]? = some (.cells (kcellsK seed h (.int .u32 0) (.int .i32 1) (.int .u32 0) lv0 u) 83 (0, 0)) := blkSet hb 3 _
  have hg1 : Chg (fun k => k = b) w (w.setCell ⟨b, 3, none⟩ (.int .i32 1)) := (Chg.refl (fun k => k = b) w).setCell (p := ⟨b, 3, none⟩) (.inl rfl) _
  have hp1 := hg1.obj hp HNE.out
  have hl := run_call_load (P := Try.prog) Try.func108 (by kernel_rfl) (by kernel_rfl) (by kernel_rfl) .u32 (by kernel_rfl) (w := w.setCell ⟨b, 3, none⟩ (.int .i32 1)) (a := ⟨b, 2, none⟩) (x := 0) (blkCell hb1 2)
  have hnot : ∀ (x : Bool) (w : World), (Op.unary .not (.bool x)).run Try.prog w = .ok (.bool (!x)) w := fun _ _ => rfl
  have HB1 := Lib.hid hb1
  have HP1 := Lib.hid hp1
  have HG1 := Lib.hid hg1
  clear hb1 hp1 hg1 hb hp
  go_enter_defers Try.func98, Try.ntmps98
  go_wp2_with (first
    | (go_at_call 109; refine (lock_free ⟨b, 3, none⟩ _ c3 z3).mono ?_; rintro e w' ⟨rfl, rfl⟩)
    | (go_at_call 97; go_in)
    | (go_at_call 64; refine (tree1_calls _ b p seed h _ _ _ u lv0 hs hh HB1.out HP1.out).mono ?_; rintro e w2 ⟨rfl, lv, r, hb2, hl2, hg2⟩; have HB2 := Lib.hid hb2; have HL2 := Lib.hid hl2; have HG2 := Lib.hid hg2; clear hb2 hl2 hg2))
  have hb3 : (w2.drew.setCell ⟨b, 2, none⟩ (.int .u32 1)).heap[b]? = some (.cells (kcellsK seed h (.int .u32 1) (.int .i32 1) (.int .u32 0) lv u) 83 (0, 0)) := blkSet (w := w2.drew) HB2.out 2 _
  have hb4 : ((w2.drew.setCell ⟨b, 2, none⟩ (.int .u32 1)).setCell ⟨b, 3, none⟩ (.int .i32 0)).heap[b]? = some (.cells (kcellsK seed h (.int .u32 1) (.int .i32 0) (.int .u32 0) lv u) 83 (0, 0)) := blkSet hb3 3 _
  have g3 : Chg (fun k => k = b) w2 ((w2.drew.setCell ⟨b, 2, none⟩ (.int .u32 1)).setCell ⟨b, 3, none⟩ (.int .i32 0)) := (((Chg.refl (fun k => k = b) w2).drew).setCell (p := ⟨b, 2, none⟩) (.inl rfl) _).setCell (p := ⟨b, 3, none⟩) (.inl rfl) _
  have hfin : ∃ lv r, ((w2.drew.setCell ⟨b, 2, none⟩ (.int .u32 1)).setCell ⟨b, 3, none⟩ (.int .i32 0)).heap[b]? = some (.cells (kcellsK seed h (.int .u32 1) (.int .i32 0) (.int .u32 0) lv u) 83 (0, 0)) ∧ LevelsAt ((w2.drew.setCell ⟨b, 2, none⟩ (.int .u32 1)).setCell ⟨b, 3, none⟩ (.int .i32 0)) lv r (lev seed h) (h + 1) ∧ Chg (fun k => k = b) w ((w2.drew.setCell ⟨b, 2, none⟩ (.int .u32 1)).setCell ⟨b, 3, none⟩ (.int .i32 0)) :=
    ⟨lv, r, hb4, HL2.out.chg g3 (Other.one HB2.out (by decide)) (Other.one HB2.out (by decide)), (HG1.out.trans HG2.out (fun _ h => .inl h)).trans g3 (fun _ h => .inl h)⟩
  refine leaves_cons (f := 111) (args := #[.pointer (some ⟨b, 2, none⟩), .bool true]) (by simp) (by simp [go_sem]) ?_
  refine (store_deferred ⟨b, 2, none⟩ (.int .u32 0) .returning _ (blkCell HB2.out 2) (blkFree HB2.out 2)).mono ?_
  rintro e u' w'' ⟨rfl, rfl, rfl⟩
  refine leaves_cons (f := 110) (args := #[.pointer (some ⟨b, 3, none⟩)]) (by simp [settle]) (by simp [go_sem]) ?_
  refine (unlock_deferred ⟨b, 3, none⟩ _ _ (blkCell hb3 3) (blkFree hb3 3)).mono ?_
  rintro e u' w'' ⟨rfl, rfl, rfl⟩
  simp only [Leaves, settle]
  exact ⟨_, results_none rfl _ _ _, rfl, hfin⟩
set_option maxRecDepth 100000 in
set_option maxHeartbeats 1600000 in
theorem Do_first (w : World) (b p : Nat) (seed : ByteArray) (h : Nat) (u lv0 : Value) (hs : seed.size ≤ 140737488351232) (hh : h ≤ 4)
    (hb : w.heap[b]? = some (.cells (kcellsK seed h (.int .u32 0) (.int .i32 0) (.int .u32 0) lv0 u) 83 (0, 0))) (hp : w.heap[p]? = some (.cells #[.pointer (some ⟨b, 0, none⟩)] 39 (0, 0))) :
    Calls Try.prog 63 #[.pointer (some ⟨b, 2, none⟩), .func (.func 64) #[] #[.pointer (some ⟨p, 0, none⟩)]] w fun e w' => e = .returned (.tuple #[]) ∧ ∃ lv r, w'.heap[b]? = some (.cells (kcellsK seed h (.int .u32 1) (.int .i32 0) (.int .u32 0) lv u) 83 (0, 0)) ∧ LevelsAt w' lv r (lev seed h) (h + 1) ∧ Chg (fun k => k = b) w w' := by
  have hl := run_call_load (P := Try.prog) Try.func108 (by kernel_rfl) (by kernel_rfl) (by kernel_rfl) .u32 (by kernel_rfl) (w := w) (a := ⟨b, 2, none⟩) (x := 0) (blkCell hb 2)
  have hnot : ∀ (x : Bool) (w : World), (Op.unary .not (.bool x)).run Try.prog w = .ok (.bool (!x)) w := fun _ _ => rfl
  have HB := Lib.hid hb
  have HP := Lib.hid hp
  clear hb hp
  go_enter Try.func63, Try.ntmps63
  go_wp2_with (first
    | (go_at_call 98; refine (slow_calls _ b p seed h u lv0 hs hh HB.out HP.out).mono ?_; rintro e w2 ⟨rfl, hq⟩; have HQ := Lib.hid hq; clear hq)
    | (go_at_call 97; go_in))
  go_end0
  exact ⟨rfl, HQ.out⟩
theorem Do_done (w : World) (a : Addr) (fv : Value) (hc : w.cell? a = some (.int .u32 1)) :
    Calls Try.prog 63 #[.pointer (some a), fv] w fun e w' => e = .returned (.tuple #[]) ∧ w' = w := by
  have hl := run_call_load (P := Try.prog) Try.func108 (by kernel_rfl) (by kernel_rfl) (by kernel_rfl) .u32 (by kernel_rfl) hc
  have hnot : ∀ (x : Bool) (w : World), (Op.unary .not (.bool x)).run Try.prog w = .ok (.bool (!x)) w := fun _ _ => rfl
  go_enter Try.func63, Try.ntmps63
  go_wp2
  go_end0
  exact ⟨rfl, rfl⟩
set_option maxRecDepth 100000 in
set_option maxHeartbeats 1600000 in
theorem tree_calls (w : World) (b : Nat) (seed : ByteArray) (h : Nat) (used : Int) (hs : seed.size ≤ 140737488351232) (hh : h ≤ 4) (hk : KKey w b seed h used) :
    Calls Try.prog 40 #[.pointer (some ⟨b, 0, none⟩)] w fun e w' => ∃ lv r, e = .returned lv ∧ w'.heap[b]? = some (.cells (kcellsK seed h (.int .u32 1) (.int .i32 0) (.int .u32 0) lv (.int .i64 used)) 83 (0, 0)) ∧ LevelsAt w' lv r (lev seed h) (h + 1) ∧ Chg (fun k => k = b) w w' := by
  have hmf : ∀ (fn : Fn) (first cap : Array Value) (w : World), (Instr.makeFunc fn first cap).run Try.prog w = .ok (.func fn first cap) w := fun _ _ _ _ => rfl
  obtain ⟨d, lv0, r0, hb, hd⟩ := hk
  have hb1 := blkOld hb (.cells #[.pointer (some ⟨b, 0, none⟩)] 39)
  have hp1 := blkAlloc w (.cells #[.pointer (some ⟨b, 0, none⟩)] 39)
  have hg1 : Chg (fun k => k = b) w (w.alloc (.cells #[.pointer (some ⟨b, 0, none⟩)] 39)) := (Chg.refl _ w).alloc _
  have hlt := blkLt hb
  have HB1 := Lib.hid hb1
  have HP1 := Lib.hid hp1
  have HG1 := Lib.hid hg1
  rcases hd with ⟨rfl, rfl⟩ | ⟨rfl, hl⟩
  · have HNE : Hid (w.heap.size ≠ b) := Lib.hid (by omega)
    clear hb hb1 hp1 hg1 hlt
    go_enter Try.func40, Try.ntmps40
    go_wp2_with (go_at_call 63; refine (Do_first _ b w.heap.size seed h (.int .i64 used) (.slice none 0 0) hs hh HB1.out HP1.out).mono ?_; rintro e w2 ⟨rfl, lv, r, hb2, hl2, hg2⟩; have cp : w2.cell? ⟨w.heap.size, 0, none⟩ = some (.pointer (some ⟨b, 0, none⟩)) := blkCell (hg2.obj HP1.out HNE.out) 0; have c5 : w2.cell? ⟨b, 5, none⟩ = some lv := blkCell hb2 5; have HB2 := Lib.hid hb2; have HL2 := Lib.hid hl2; have HG2 := Lib.hid hg2; clear hb2 hl2 hg2)
    go_ret
    exact ⟨lv, r, rfl, HB2.out, HL2.out, HG1.out.trans HG2.out (fun _ h => .inl h)⟩
  · have HL := Lib.hid (hl.chg hg1 (Other.one hb (by decide)) (Other.one hb (by decide)))
    have c5 : (w.alloc (.cells #[.pointer (some ⟨b, 0, none⟩)] 39)).cell? ⟨b, 5, none⟩ = some lv0 := blkCell hb1 5
    have c2 : (w.alloc (.cells #[.pointer (some ⟨b, 0, none⟩)] 39)).cell? ⟨b, 2, none⟩ = some (.int .u32 1) := blkCell hb1 2
    clear hb hb1 hp1 hg1 hlt hl
    go_enter Try.func40, Try.ntmps40
    go_wp2_with (go_at_call 63; refine (Do_done _ _ _ c2).mono ?_; rintro e w2 ⟨rfl, rfl⟩)
    go_ret
    exact ⟨lv0, r0, rfl, HB1.out, HL.out, HG1.out⟩
end Go.Proofs.Ytpdgkgdaaapngaa

/- The walk of PackNone: a nil reader reads nothing and answers ErrArg. -/
import Derived.Test.YtjlkflbkejpcaaaWl
import Derived.Test.YtjlkflbkejpcaaaRr2
namespace Go.Proofs.Ytjlkflbkejpcaaa
open Go.RowKit

set_option maxRecDepth 100000 in
theorem PackNone_walk (k n : Int) (s : ByteArray) (w : World) :
    Calls Try.prog 5 #[.agg #[.int .u8 k, .int .i64 n, .string s]] w fun e w' => e = .returned (.bool true) ∧ Chg (fun _ => False) w w' := by
  have HX : Hid ((w.alloc (.cells #[.int .u8 k, .int .i64 n, .string s] 31)).heap[w.heap.size]? = some (.cells #[.int .u8 k, .int .i64 n, .string s] 31 (0, 0))) := Lib.hid (blkAlloc w _)
  have HG : Hid (Chg (fun _ => False) w (w.alloc (.cells #[.int .u8 k, .int .i64 n, .string s] 31))) := Lib.hid ((Chg.refl _ w).alloc _)
  go_enter Try.func5, Try.ntmps5
  go_wp2_with (first
    | (go_at_call 11; refine (lays_calls _).mono ?_; rintro r w1 ⟨rfl, hg⟩; have HX := Lib.hid (hg.obj HX.out id); have HG := Lib.hid (HG.out.trans hg (fun _ hk => .inl hk)); clear hg)
    | (go_at_call 22; refine (Byte_nil _).mono ?_; rintro r w1 ⟨rfl, hg⟩; have HX := Lib.hid (hg.obj HX.out id); have HG := Lib.hid (HG.out.trans hg (fun _ hk => .inl hk)); have c1 := blkCell HX.out 1; clear hg)
    | (go_at_call 23; refine (Two_nil _).mono ?_; rintro r w1 ⟨rfl, hg⟩; have HX := Lib.hid (hg.obj HX.out id); have HG := Lib.hid (HG.out.trans hg (fun _ hk => .inl hk)); have c1 := blkCell HX.out 1; clear hg)
    | (go_at_call 24; refine (Four_nil _).mono ?_; rintro r w1 ⟨rfl, hg⟩; have HX := Lib.hid (hg.obj HX.out id); have HG := Lib.hid (HG.out.trans hg (fun _ hk => .inl hk)); have c1 := blkCell HX.out 1; clear hg)
    | (go_at_call 25; refine (Eight_nil _).mono ?_; rintro r w1 ⟨rfl, hg⟩; have HX := Lib.hid (hg.obj HX.out id); have HG := Lib.hid (HG.out.trans hg (fun _ hk => .inl hk)); have c1 := blkCell HX.out 1; clear hg)
    | (go_at_call 21; refine (Fail_nil _ _).mono ?_; rintro r w1 ⟨rfl, rfl⟩)
    | (go_at_call 26; refine (Text_nil _ _).mono ?_; rintro r w1 ⟨rfl, rfl⟩)
    | (go_at_call 27; refine (Hash_nil _).mono ?_; rintro r w1 ⟨rfl, rfl⟩)
    | (go_at_call 28; refine (Raw_nil _ _).mono ?_; rintro r w1 ⟨rfl, rfl⟩)
    | (go_at_call 29; refine (Left_nil _).mono ?_; rintro r w1 ⟨rfl, rfl⟩)
    | (go_at_call 30; refine (Err_nil _).mono ?_; rintro r w1 ⟨rfl, rfl⟩)
    | (go_at_call 31; refine (End_nil _).mono ?_; rintro r w1 ⟨rfl, rfl⟩))
  go_ret
  exact ⟨rfl, HG.out⟩

end Go.Proofs.Ytjlkflbkejpcaaa
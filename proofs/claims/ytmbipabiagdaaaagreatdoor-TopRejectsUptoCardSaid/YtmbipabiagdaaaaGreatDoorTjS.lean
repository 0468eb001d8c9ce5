/- TopRejects: sha.Sum, tree.Node. -/
import Derived.Test.YtmbipabiagdaaaaGreatDoorShH
namespace Go.Proofs.YtmbipabiagdaaaaGreatDoor
open Go.RowKit
def tot (l : List ByteArray) : Nat := (l.map fun s => s.size).sum
theorem tot_take (l : List ByteArray) (k : Nat) (hk : k < l.length) : tot (l.take (k + 1)) = tot (l.take k) + l[k].size := by
  unfold tot
  rw [List.take_succ_eq_append_getElem hk, List.map_append, List.sum_append]
  simp
theorem tot_le (l : List ByteArray) (k : Nat) : tot (l.take k) ≤ tot l := by
  conv => rhs; rw [← List.take_append_drop k l]
  unfold tot
  rw [List.map_append, List.sum_append]
  omega
def catS (l : List ByteArray) : List UInt8 := l.flatMap fun s => s.data.toList
theorem catS_take (l : List ByteArray) (k : Nat) (hk : k < l.length) : catS (l.take (k + 1)) = catS (l.take k) ++ l[k].data.toList := by
  unfold catS
  rw [List.take_succ_eq_append_getElem hk, List.flatMap_append]
  simp
theorem catS_len (l : List ByteArray) : (catS l).length = tot l := by
  induction l with
  | nil => rfl
  | cons x l ih =>
    simp only [catS, tot, List.flatMap_cons, List.length_append, List.map_cons, List.sum_cons] at ih ⊢
    rw [ih]
    have : x.data.toList.length = x.size := Array.length_toList
    omega
def sumF (l : List ByteArray) : ByteArray := strOf (hashF (catS l))
theorem Row.len {w : World} {e : TypeId} {A : Option Addr} {m c : Nat} {r : Option Nat} {bs : List UInt8} (h : Row w e (.slice A m c) r bs) : bs.length = m := by
  obtain ⟨⟨_, h2⟩, _⟩ := h
  rcases h2 with ⟨e, h0⟩ | ⟨g, cap, cur, e, _⟩
  · injection e with _ e2 _
    omega
  · injection e with _ e2 _
    exact e2.symm
def zerosN (n : Nat) : Array Value := madeCells (Value.int .u8 0).cells (n * 1)
theorem makeN (n : Nat) (hn : n ≤ 140737488355328) (w : World) : (Instr.makeSlice 73 (.int .i64 0) (.int .i64 (n : Int))).run Tryz.prog w = .ok (.slice (some ⟨w.heap.size, 0, none⟩) 0 n) (w.alloc (.cells (zerosN n) 5)) := by
  obtain ⟨i, hi, hzz⟩ := Option.map_eq_some_iff.1 info_u8
  simp only [Prod.mk.injEq] at hzz
  obtain ⟨hz0, hz1, hz2⟩ := hzz
  have h := run_make (P := Tryz.prog) w 73 5 i (.int .u8 0) Tryz.underlying73 hi hz0 .i64 .i64 0 (n : Int) (by omega) (by omega) (by rw [hz2]; omega) (by omega)
  rw [hz1] at h
  exact h
theorem madeN (n : Nat) (hn : n ≤ 140737488355328) (w : World) : Row (w.alloc (.cells (zerosN n) 5)) 5 (.slice (some ⟨w.heap.size, 0, none⟩) 0 n) (some w.heap.size) [] :=
  ⟨⟨rfl, .inr ⟨w.heap.size, n, zerosN n, rfl, Nat.zero_le _, blkAlloc w _, Nat.zero_le _, by simp only [maxLen]; omega, by rw [zerosN, size_madeCells], rfl⟩⟩, rfl⟩
set_option maxRecDepth 100000 in
set_option maxHeartbeats 2000000 in
theorem Sum_calls (w : World) (A : Option Addr) (n c : Nat) (parts : List ByteArray) (hp : StrsIn w A parts) (hn : parts.length = n) (hb : tot parts ≤ 140737488350000) :
    Calls Tryz.prog 112 #[.slice A n c] w fun e w' => e = .returned (.string (sumF parts)) ∧ Chg (fun _ => False) w w' := by
  subst hn
  have HP := Lib.hid hp
  have HB := Lib.hid hb
  have hpl := hp.1
  clear hp hb
  go_enter Tryz.func112, Tryz.ntmps112
  go_wp2_with fail
  go_loop [3, 11] (fun v i => ∃ (k : Nat), k ≤ parts.length ∧ i = .int .i64 k ∧ v = .int .i64 ((96 + tot (parts.take k) : Nat) : Int)) (fun _ i => parts.length - (intOf i).toNat)
  case atStart => exact ⟨0, Nat.zero_le _, rfl, rfl⟩
  case round =>
    obtain ⟨k, hk, rfl, rfl⟩ := hrel
    by_cases hlt : k < parts.length
    · obtain ⟨a, rfl, ha⟩ := HP.out.get k hlt
      have HT := Lib.hid (tot_take parts k hlt)
      have hle := tot_le parts (k + 1)
      have hbb := HB.out
      rw [HT.out] at hle
      obtain ⟨s, hs⟩ : ∃ s, parts[k] = s := ⟨_, rfl⟩
      rw [hs] at ha hle HT
      obtain ⟨T, hT⟩ : ∃ T, tot (parts.take k) = T := ⟨_, rfl⟩
      rw [hT] at hle HT ⊢
      have q0 : (0 : Int) ≤ (k : Int) := by omega
      have q1 : (k : Int) < (parts.length : Int) := by omega
      clear hs hT
      go_wp2_with fail
      exact ⟨⟨k + 1, by omega, by go_num, by rw [HT.out]; simp; rw [Int.add_assoc]⟩, by simp [intOf]; omega⟩
    · obtain rfl : k = parts.length := by omega
      rw [List.take_length]
      obtain ⟨N, hN⟩ : ∃ N, 96 + tot parts = N := ⟨_, rfl⟩
      have hN2 : N ≤ 140737488355328 := by have := HB.out; omega
      rw [hN]
      have hmk := makeN N hN2 w
      have H0 : Hid (OwnS (fun _ => False) w (w.alloc (.cells (zerosN N) 5)) (.slice (some ⟨w.heap.size, 0, none⟩) 0 N) [] (some w.heap.size)) := Lib.hid ⟨madeN N hN2 w, fun k e => .inr (by injection e with e; omega), (Chg.refl _ w).alloc _⟩
      clear hN hN2
      go_wp2_with fail
      go_loopw [6, 24] (fun v i wx => ∃ (k : Nat) (B : Option Addr) (m C : Nat) (r : Option Nat), k ≤ parts.length ∧ i = .int .i64 k ∧ v = .slice B m C ∧ HD (OwnS (fun _ => False) w wx (.slice B m C) (catS (parts.take k)) r)) (fun _ i _ => parts.length - (intOf i).toNat)
      case atStart => exact ⟨0, _, _, _, _, Nat.zero_le _, rfl, rfl, ⟨H0.out⟩⟩
      case round =>
        clear H0
        obtain ⟨k, B, m, C, r, hkl, rfl, rfl, HO⟩ := hrel
        by_cases hlt : k < parts.length
        · obtain ⟨a, rfl, ha⟩ := HP.out.get k hlt
          have hsa := cellChg ha HO.out.2.2 (fun h => h)
          have HTS := Lib.hid (catS_take parts k hlt)
          have hle := tot_le parts (k + 1)
          rw [tot_take parts k hlt] at hle
          have hcl := catS_len (parts.take k)
          obtain ⟨s, hs⟩ : ∃ s, parts[k] = s := ⟨_, rfl⟩
          rw [hs] at hsa HTS hle
          have HLS : Hid ((catS (parts.take k)).length + s.size ≤ 140737488355328) := Lib.hid (by have := HB.out; omega)
          have q0 : (0 : Int) ≤ (k : Int) := by omega
          have q1 : (k : Int) < (parts.length : Int) := by omega
          clear hs ha hle hcl
          go_wp2_with (at_builtin; refine wpList_append_str wr rfl (.tmp 28) (.tmp 29) 73 9 5 rfl Tryz.underlying73 Tryz.underlying9 info_u8 (.slice B m C) r (catS (parts.take k)) s rfl rfl HO.out.1 HLS.out ?_; intro A3 n3 c3 w3 r3 hrow hnext hgrow; have H3 := Lib.hid (HO.out.next hrow hnext ((Chg.refl _ wr).grown hgrow (fun _ hk => .inl hk))); clear hrow hnext hgrow)
          exact ⟨⟨k + 1, A3, n3, c3, r3, by omega, by go_num, rfl, ⟨by rw [HTS.out]; exact H3.out⟩⟩, by simp [intOf]; omega⟩
        · obtain rfl : k = parts.length := by omega
          have HO2 : Hid (OwnS (fun _ => False) w wr (.slice B m C) (catS parts) r) := Lib.hid (by have h := HO.out; rwa [List.take_length] at h)
          clear HO
          have hcl := catS_len parts
          have hTL : (catS parts).length = m := HO2.out.1.len
          have hTM : m ≤ 140737488355200 := by have := HB.out; omega
          have HTL := Lib.hid hTL
          clear hTL hcl
          go_wp2_with fail
          refine (hashed_calls _ B m C r (catS parts) HO2.out.1 HTL.out hTM).mono ?_
          rintro e w2 ⟨rfl, hg⟩
          have HG := Lib.hid hg
          clear hg
          go_wp2
          go_ret
          exact ⟨rfl, HO2.out.2.2.trans HG.out (fun j e => HO2.out.2.1 j e)⟩
def nodeF (l r : ByteArray) : ByteArray := sumF [⟨#[1]⟩, l, r]
theorem sumF_size (l : List ByteArray) : (sumF l).size = 32 := by
  unfold sumF
  rw [strOf_size, hashF_len]
theorem Node_calls (w : World) (l r : ByteArray) (hl : l.size ≤ 1048576) (hr : r.size ≤ 1048576) :
    Calls Tryz.prog 114 #[.string l, .string r] w fun e w' => e = .returned (.string (nodeF l r)) ∧ Chg (fun _ => False) w w' := by
  have ht : tot [⟨#[1]⟩, l, r] ≤ 140737488350000 := by
    show 1 + (l.size + (r.size + 0)) ≤ _
    omega
  have C := Lib.hid (Sum_calls (w.alloc (.cells #[.string ⟨#[1]⟩, .string l, .string r] 9)) (some ⟨w.heap.size, 0, none⟩) 3 3 [⟨#[1]⟩, l, r] ⟨by simp, fun _ => ⟨_, rfl, fun j s hj => by
    match j, hj with
    | 0, hj => injection hj with hj; subst hj; exact blkCell (blkAlloc w _) 0
    | 1, hj => injection hj with hj; subst hj; exact blkCell (blkAlloc w _) 1
    | 2, hj => injection hj with hj; subst hj; exact blkCell (blkAlloc w _) 2⟩⟩ rfl ht)
  rw [show sumF [⟨#[1]⟩, l, r] = nodeF l r from rfl] at C
  clear ht
  go_enter Tryz.func114, Tryz.ntmps114
  go_wp2_with (go_at_call 112; refine (C.out).mono ?_; rintro e w1 ⟨rfl, hc⟩; have G := Lib.hid (((Chg.refl (fun _ => False) w).alloc _).trans hc (fun _ h => h.elim)); clear hc)
  go_ret
  exact ⟨rfl, G.out⟩
end Go.Proofs.YtmbipabiagdaaaaGreatDoor

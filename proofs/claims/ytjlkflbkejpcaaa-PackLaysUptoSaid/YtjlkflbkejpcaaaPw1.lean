/- The walk of PackLays, one of its two cases. -/
import Derived.Test.YtjlkflbkejpcaaaPw0
namespace Go.Proofs.Ytjlkflbkejpcaaa
open Go.RowKit

set_option maxRecDepth 100000 in
set_option maxHeartbeats 2000000 in
theorem PackLays_big (A : Option Addr) (l : List OpV) (c : Nat) (w : World) (hl : OpsIn w A l) (hc : l.length ≤ c) (hsm : ∀ o ∈ l, o.small) (h5 : 500 < l.length) :
    Calls Try.prog 3 #[.slice A l.length c] w fun e w' => e = .returned (.bool true) ∧ Chg (fun _ => False) w w' := by
  have HL := Lib.hid hl
  have HSM := Lib.hid hsm
  clear hl hsm
  go_enter Try.func3, Try.ntmps3
  go_wp2_with (go_at_call 11; refine (lays_calls _).mono ?_; rintro e w1 ⟨rfl, g1⟩)
  have HT : Hid (Two ((w1.alloc (.cells #[.slice none 0 0, .bool false] 26)).alloc (.cells #[.slice none 0 0, .bool false] 28)) w1.heap.size none ([], false) (w1.heap.size + 1) none ([], false)) := Lib.hid
    ⟨(WrAt.fresh w1 26).chg ((Chg.refl (fun _ => False) _).alloc _) id (fun _ _ => id), by have h := WrAt.fresh (w1.alloc (.cells #[.slice none 0 0, .bool false] 26)) 28; simpa using h, fun k hk => by cases hk⟩
  have GG := Lib.hid ((g1.alloc (.cells #[.slice none 0 0, .bool false] 26)).alloc (.cells #[.slice none 0 0, .bool false] 28))
  have B1 : Hid (w.heap.size ≤ w1.heap.size) := Lib.hid g1.size
  clear g1
  go_loopw [22] (fun v wr => ∃ (k : Nat) (r r2 : Option Nat) (s s2 : WS), k ≤ 500 ∧ v = .int .i64 k ∧ HD (Two wr w1.heap.size r s (w1.heap.size + 1) r2 s2) ∧ HD (Rel s s2) ∧ HD (s.1.length ≤ k * 1048584 ∧ s2.1.length ≤ k * 1048584) ∧ HD ((∀ k, r = some k → w.heap.size ≤ k) ∧ (∀ k, r2 = some k → w.heap.size ≤ k)) ∧ HD (Chg (fun _ => False) w wr)) (fun v _ => 500 - (intOf v).toNat)
  case atStart =>
    refine ⟨0, none, none, ([], false), ([], false), Nat.zero_le _, rfl, ⟨HT.out⟩, ⟨⟨rfl, fun _ => rfl⟩⟩, ⟨?_⟩, ⟨?_⟩, ⟨GG.out⟩⟩
    · simp
    · simp
  case round =>
    clear HT GG
    obtain ⟨k, r, r2, s, s2, hk, rfl, HT, HR, HLEN, HB, GG⟩ := hrel
    by_cases hlt : k < 500
    · obtain ⟨a, rfl, ha, hok⟩ := HL.out.get k (by omega)
      have hs0 := HSM.out (l[k]'(by omega)) (List.getElem_mem _)
      have ha2 := OpV.at_chg (o := l[k]'(by omega)) ha GG.out id
      obtain ⟨o, ho⟩ : ∃ o, l[k]'(by omega) = o := ⟨_, rfl⟩
      rw [ho] at ha2 hok hs0
      clear ho ha
      obtain ⟨c0, c1, c2⟩ := ha2
      have HOK := Lib.hid hok
      have HSO := Lib.hid hs0
      have HLS : Hid (s.1.length + o.s.size + 8 ≤ 140737488355328 ∧ s2.1.length + o.s.size + 8 ≤ 140737488355328) := Lib.hid (by have := HLEN.out; have := hs0.2; omega)
      clear hok hs0
      have K1 := Lib.hid (HT.out.none_ ((Chg.refl (fun _ => False) wr).alloc (.cells #[.int .u8 o.k, .int .i64 o.n, .string o.s] 31)))
      have KB : Hid ((wr.alloc (.cells #[.int .u8 o.k, .int .i64 o.n, .string o.s] 31)).heap[wr.heap.size]? = some (.cells #[.int .u8 o.k, .int .i64 o.n, .string o.s] 31 (0, 0))) := Lib.hid (blkAlloc wr _)
      go_wp2_with (fail)
      refine (lay_calls _ w1.heap.size (w1.heap.size + 1) r r2 s s2 o.k o.n o.s HOK.out HSO.out.1 (by exact K1.out) HLS.out.1 HLS.out.2).mono ?_
      rintro e w5 ⟨rfl, r', r2', h1, n1, n2, g⟩
      have K1' := Lib.hid h1
      have N1 := Lib.hid n1
      have N2 := Lib.hid n2
      have G1 := Lib.hid g
      have hnb : ¬ S4 w1.heap.size r (w1.heap.size + 1) r2 wr.heap.size := by
        rintro ((e | e) | (e | e))
        · have := HT.out.l.lt; omega
        · have := HT.out.l.rlt e; omega
        · have := HT.out.x.lt; omega
        · have := HT.out.x.rlt e; omega
      have KB' := Lib.hid (g.obj KB.out hnb)
      have d0 := blkCell KB'.out 0
      have d1 := blkCell KB'.out 1
      have d2 := blkCell KB'.out 2
      have dlt := blkLt KB'.out
      have HF : Hid (WrAt (w5.alloc (.cells #[.slice none 0 0, .bool false] 28)) 28 w5.heap.size none (([], false) : WS).1 (([], false) : WS).2) := Lib.hid (WrAt.fresh w5 28)
      clear h1 n1 n2 g hnb
      go_wp2_with (fail)
      refine (layn_calls _ w5.heap.size none ([], false) o.k o.n o.s HOK.out HSO.out.1 (by exact HF.out) (by have := HSO.out.2; simp only [List.length_nil]; omega)).mono ?_
      rintro e w6 ⟨rfl, r3', h2, n3, g2⟩
      have G2 : Hid (Chg (fun _ => False) w5 w6) := Lib.hid (((Chg.refl (fun _ => False) w5).alloc _).trans g2 (fun k hk => .inr (hk.elim (fun e => Nat.le_of_eq e.symm) (fun e => by cases e))))
      have K2 := Lib.hid (K1'.out.none_ G2.out)
      obtain ⟨tt, ee, hb1, hb2⟩ := (HR.out.lay o.k o.n o.s).bytes
      have CB1 := Lib.hid (wBytes_calls _ _ _ _ K2.out.l)
      have CB2 := Lib.hid (rwBytes_calls _ _ _ _ K2.out.x)
      rw [hb1] at CB1
      rw [hb2] at CB2
      clear h2 n3 g2 hb1 hb2
      go_wp2_with (first
        | (go_at_call 13; refine (CB1.out).mono ?_; rintro e w7 ⟨rfl, rfl⟩)
        | (go_at_call 14; refine (CB2.out).mono ?_; rintro e w8 ⟨rfl, rfl⟩))
      refine ⟨⟨k + 1, r', r2', _, _, by omega, by go_num, ⟨K2.out⟩, ⟨HR.out.lay o.k o.n o.s⟩, ⟨?_⟩, ⟨⟨?_, ?_⟩⟩, ⟨?_⟩⟩, by simp [intOf]; omega⟩
      · have h1 := layW_len s o.k o.n o.s
        have h2 := rlayW_len s2 o.k o.n o.s
        have h3 := HLEN.out
        have h4 := HSO.out.2
        rw [Nat.add_mul]
        omega
      · exact N1.out.new HB.out.1 (by have := GG.out.size; simp; omega)
      · exact N2.out.new HB.out.2 (by have := GG.out.size; simp; omega)
      · refine Chg.trans ?_ G2.out (fun _ hk => hk.elim)
        exact Chg.freed G1.out w.heap.size (S4.new B1.out (by have := B1.out; omega) HB.out.1 HB.out.2) (GG.out.alloc _) (Nat.le_refl _)
    · go_wp2_with (go_at_call 13; refine (wBytes_nil _).mono ?_; rintro e w7 ⟨rfl, rfl⟩)
      go_ret
      exact ⟨rfl, GG.out⟩

end Go.Proofs.Ytjlkflbkejpcaaa
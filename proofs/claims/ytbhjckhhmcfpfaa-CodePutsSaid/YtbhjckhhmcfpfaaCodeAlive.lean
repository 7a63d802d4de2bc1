/- The first call of chapter 19's statements (alive) returns true. -/
import Derived.Test.YtbhjckhhmcfpfaaCPut
import Derived.Test.YtbhjckhhmcfpfaaBitsAlive
namespace Go.Proofs.Ytbhjckhhmcfpfaa
open Go.RowKit
set_option linter.unusedVariables false
set_option linter.unusedSimpArgs false

theorem RdS.blk {w : World} {g : Nat} {cs : Array Value} {t : TypeId} (h : w.heap[g]? = some (.cells cs t (0, 0))) : RdS w (some ⟨g, 0, none⟩) cs.toList := by
  intro j x hj
  refine ⟨g, 0, rfl, ?_⟩
  rw [Nat.zero_add, blk_cell h j]
  simpa using hj

set_option maxRecDepth 100000 in
set_option maxHeartbeats 2000000 in
theorem codeAlive (w : World) : Calls Try.prog 18 #[] w fun e w' => e = .returned (.bool true) ∧ Kp (fun _ => False) w w' := by
  obtain ⟨B, hB⟩ : ∃ B : ByteArray, B = ⟨#[192]⟩ := ⟨_, rfl⟩
  have HP : Hid (strOfNums (pack ([] ++ bitsOf 3 2 2)) = B) := by show _ = B; rw [hB]; decide
  have heq : (B.toList == [192]) = true := by rw [hB, ByteArray.toList_eq]; decide
  have heq2 : B.toList = [192] := by rw [hB, ByteArray.toList_eq]
  clear hB
  go_enter Try.func18, Try.ntmps18
  go_wp2_with fail
  have hb1 := blk_new w (.cells #[.int .i64 2, .int .i64 2, .int .i64 1] 3)
  obtain ⟨W1, hW1⟩ : ∃ W1, W1 = w.alloc (.cells #[.int .i64 2, .int .i64 2, .int .i64 1] 3) := ⟨_, rfl⟩
  have hk1 : Kp (fun _ => False) w W1 := by rw [hW1]; exact (Kp.refl (fun _ => False) _).alloc _
  rw [← hW1] at hb1
  rw [← hW1]
  have hof := codeOf_ok (some ⟨w.heap.size, 0, none⟩) 3 [2, 2, 1] W1 (RdS.blk hb1) (by decide) (by decide)
  rw [show codes [2, 2, 1] = [2, 3, 0] by decide, show ([2, 2, 1] : List Int).length = 3 from rfl] at hof
  refine hof.mono ?_
  rintro e W2 ⟨g, hg, rfl, ho2, hk2⟩
  have HK2 := Lib.hid (hk1.trans hk2 (fun _ h => .inl h))
  have HO2 := Lib.hid ho2
  clear hof hk1 hk2 ho2 hb1 hW1 hg
  go_wp2_with fail
  obtain ⟨W3, hW3⟩ : ∃ W3, W3 = (W2.alloc (.cells #[.slice none 0 0, .int .i64 0] 27)).alloc (.cells #[.int .i64 2, .int .i64 3, .int .i64 0] 3) := ⟨_, rfl⟩
  have hw3 : WR W3 W1.heap.size W2.heap.size (.slice none 0 0) [] := by
    rw [hW3]; exact (WR.new W2 W1.heap.size (own_lt HO2.out rfl |>.1 |> fun h => Nat.le_trans h (Nat.le_of_lt (own_lt HO2.out rfl).2))).kp ((Kp.refl (fun _ => False) _).alloc _) (fun h => h) (fun _ _ h => h)
  have hb3 : W3.heap[W2.heap.size + 1]? = some (.cells #[.int .i64 2, .int .i64 3, .int .i64 0] 3 (0, 0)) := by
    rw [hW3]
    have := blk_new (W2.alloc (.cells #[.slice none 0 0, .int .i64 0] 27)) (.cells #[.int .i64 2, .int .i64 3, .int .i64 0] 3)
    simpa using this
  have hk3 : Kp (fun _ => False) W2 W3 := by rw [hW3]; exact ((Kp.refl (fun _ => False) _).alloc _).alloc _
  have ho3 := hk3.own HO2.out (fun _ _ h => h)
  rw [← hW3]
  have hsame := sameInts_any (some ⟨g, 0, none⟩) (some ⟨W2.heap.size + 1, 0, none⟩) 3 3 [2, 3, 0] [2, 3, 0] W3 (RdS.own ho3) (RdS.blk hb3) (by decide) (by decide)
  rw [show ([2, 3, 0] : List Int).length = 3 from rfl, show decide (([2, 3, 0] : List Int) = [2, 3, 0]) = true from rfl] at hsame
  have HW3 := Lib.hid hw3
  have HK3 := Lib.hid (HK2.out.trans hk3 (fun _ h => .inl h))
  have HO3 := Lib.hid ho3
  obtain ⟨gw, HGW⟩ : ∃ gw, Hid (gw = W2.heap.size) := ⟨_, Lib.hid rfl⟩
  rw [← HGW.out] at HW3
  rw [← HGW.out]
  rw [← HGW.out] at hsame
  have hgw : w.heap.size ≤ gw := by rw [HGW.out]; exact HK2.out.size
  refine hsame.mono ?_
  clear hsame hw3 hb3 hk3 ho3 hW3
  rintro e w' ⟨rfl, m1, rfl⟩
  go_wp2_with fail
  obtain ⟨W4, hW4⟩ : ∃ W4, W4 = (W3.drewN m1).alloc (.cells #[.int .i64 2, .int .i64 2, .int .i64 1] 3) := ⟨_, rfl⟩
  have hk4 : Kp (fun _ => False) W3 W4 := by rw [hW4]; exact ((Kp.refl (fun _ => False) _).drewN _).alloc _
  have hb4 : W4.heap[W3.heap.size]? = some (.cells #[.int .i64 2, .int .i64 2, .int .i64 1] 3 (0, 0)) := by rw [hW4]; exact blk_new (W3.drewN m1) _
  rw [← hW4]
  have hput := cput_yes W1.heap.size gw (.slice none 0 0) [] (some ⟨W3.heap.size, 0, none⟩) (some ⟨g, 0, none⟩) 3 3 [2, 2, 1] [2, 3, 0] 1 W4 (HW3.out.kp hk4 (fun h => h) (fun _ _ h => h)) (by decide) (RdS.blk hb4) (RdS.own (hk4.own HO3.out (fun _ _ h => h))) (by decide) (by decide) (by unfold symOk; decide) (by decide)
  rw [show ([2, 3, 0] : List Int).length = 3 from rfl, show ([2, 2, 1] : List Int).length = 3 from rfl] at hput
  have HK4 := Lib.hid (HK3.out.trans hk4 (fun _ h => .inl h))
  refine hput.mono ?_
  clear hput hk4 hb4 hW4
  rintro e W5 ⟨rfl, v5, hw5, hk5, -⟩
  have HW5 := Lib.hid hw5
  have HK5 := Lib.hid (HK4.out.trans hk5 (fun i h => .inr (h.elim (fun h => by omega) (fun h => by simp [Value.ownBlock] at h))))
  clear hw5 hk5
  go_wp2_with fail
  refine (wbytes_any _ _ _ _ W5 HW5.out).mono ?_
  rintro e w' ⟨rfl, m2, rfl⟩
  rw [show (([] : List Int) ++ bitsOf (([2, 3, 0] : List Int).getD (1 : Int).toNat 0).toNat (([2, 2, 1] : List Int).getD (1 : Int).toNat 0).toNat (([2, 2, 1] : List Int).getD (1 : Int).toNat 0).toNat) = [] ++ bitsOf 3 2 2 from rfl, HP.out]
  go_wp2_with fail
  have hb6 := blk_new (W5.drewN m2) (.cells #[.int .i64 1, .int .i64 2] 3)
  have hr1 := right_any (some ⟨W5.heap.size, 0, none⟩) 2 [1, 2] _ (RdS.blk hb6) (by decide)
  rw [show rightE [1, 2] = 8 by decide, show ([1, 2] : List Int).length = 2 from rfl] at hr1
  refine hr1.mono ?_
  clear hr1
  rintro e w' ⟨rfl, rfl⟩
  clear hb6
  go_wp2_with fail
  have hb7 := blk_new ((W5.drewN m2).alloc (.cells #[.int .i64 1, .int .i64 2] 3)) (.cells #[.int .i64 1] 3)
  rw [show ((W5.drewN m2).alloc (.cells #[.int .i64 1, .int .i64 2] 3)).heap.size = W5.heap.size + 1 by simp] at hb7
  have hr1 := right_any (some ⟨W5.heap.size + 1, 0, none⟩) 1 [1] _ (RdS.blk hb7) (by decide)
  rw [show rightE [1] = 0 by decide, show ([1] : List Int).length = 1 from rfl] at hr1
  refine hr1.mono ?_
  clear hr1
  rintro e w' ⟨rfl, rfl⟩
  clear hb7
  go_wp2_with fail
  go_ret
  exact ⟨rfl, ((HK5.out.drewN _).alloc _).alloc _⟩

end Go.Proofs.Ytbhjckhhmcfpfaa

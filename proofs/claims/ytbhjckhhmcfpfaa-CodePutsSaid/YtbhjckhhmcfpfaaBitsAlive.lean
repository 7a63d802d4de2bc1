/- The first call of chapter 2's statements (alive) returns true. -/
import Derived.Test.YtbhjckhhmcfpfaaPack
namespace Go.Proofs.Ytbhjckhhmcfpfaa
open Go.RowKit
set_option linter.unusedVariables false
set_option linter.unusedSimpArgs false

theorem WR.new (w : World) (base : Nat) (hb : base ≤ w.heap.size) : WR (w.alloc (.cells #[.slice none 0 0, .int .i64 0] 27)) base w.heap.size (.slice none 0 0) [] :=
  ⟨blk_new w _, hb, by simp; omega, World.ownsRow_nil _ _ _ _⟩
theorem RD.new (w : World) (b : ByteArray) : RD (w.alloc (.cells #[.string b, .int .i64 0] 76)) w.heap.size b 0 := blk_new w _

set_option maxRecDepth 100000 in
set_option maxHeartbeats 1000000 in
theorem bitsAlive (w : World) : Calls Try.prog 7 #[] w fun e w' => e = .returned (.bool true) ∧ Kp (fun _ => False) w w' := by
  obtain ⟨B, hB⟩ : ∃ B : ByteArray, B = ⟨#[160]⟩ := ⟨_, rfl⟩
  have hs1 : B.size = 1 := by rw [hB]; rfl
  have hg : pk (from_ B 0) 3 = 5 := by rw [hB]; decide
  have hr : restB B 3 = true := by rw [hB]; decide
  have hp : strOfNums (pack ([] ++ bitsOf 5 3 3)) = B := by rw [hB]; decide
  have HS1 := Lib.hid hs1
  have HG := Lib.hid hg
  have HR := Lib.hid hr
  have HP := Lib.hid hp
  clear hs1 hg hr hp
  go_enter Try.func7, Try.ntmps7
  go_wp2_with fail
  rw [← hB]
  have HB := Lib.hid hB
  clear hB
  refine (newReader_any B _).mono ?_
  rintro e w' ⟨rfl, rfl⟩
  go_wp2_with fail
  obtain ⟨W1, hW1⟩ : ∃ W1, W1 = (w.alloc (.cells #[.slice none 0 0, .int .i64 0] 27)).alloc (.cells #[.string B, .int .i64 0] 76) := ⟨_, rfl⟩
  rw [← hW1]
  have hw1 : WR W1 w.heap.size w.heap.size (.slice none 0 0) [] := by
    rw [hW1]; exact (WR.new w w.heap.size (Nat.le_refl _)).kp ((Kp.refl (fun _ => False) _).alloc _) (fun h => h) (fun _ _ h => h)
  have hr1 : RD W1 (w.heap.size + 1) B 0 := by
    rw [hW1]
    have := RD.new (w.alloc (.cells #[.slice none 0 0, .int .i64 0] 27)) B
    simpa using this
  have hk1 : Kp (fun _ => False) w W1 := by rw [hW1]; exact ((Kp.refl (fun _ => False) _).alloc _).alloc _
  have hget := get_ok (w.heap.size + 1) B 0 3 W1 hr1 (by rw [HS1.out]; decide) (by rw [HS1.out]; decide) (by decide)
  rw [HG.out, show ((3 : Nat) : Int) = 3 from rfl] at hget
  have HW1 := Lib.hid hw1
  have HK1 := Lib.hid hk1
  clear hw1 hr1 hk1 hW1
  refine hget.mono ?_
  clear hget
  rintro e W2 ⟨rfl, hr2, hk2⟩
  have HR2 := Lib.hid hr2
  have HK2 := Lib.hid hk2
  clear hr2 hk2
  go_wp2_with fail
  have hput := wput_ok w.heap.size w.heap.size (.slice none 0 0) [] 5 3 W2 (HW1.out.kp HK2.out (by omega) (fun k hk => by simp [Value.ownBlock] at hk)) (by decide) (by decide) (by decide)
  rw [show ((3 : Nat) : Int) = 3 from rfl, show ((5 : Nat) : Int) = 5 from rfl] at hput
  refine hput.mono ?_
  clear hput
  rintro e W3 ⟨rfl, v3, hw3, hk3, hf3⟩
  have HW3 := Lib.hid hw3
  have HK3 := Lib.hid hk3
  clear hw3 hk3 hf3
  go_wp2_with fail
  refine (wbytes_any _ _ _ _ W3 HW3.out).mono ?_
  rintro e w' ⟨rfl, m1, rfl⟩
  rw [HP.out]
  have heq : (B.toList == [160]) = true := by rw [HB.out, ByteArray.toList_eq]; decide
  have heq2 : B.toList = [160] := by rw [HB.out, ByteArray.toList_eq]
  go_wp2_with fail
  refine (wlen_any _ _ _ _ (W3.drewN m1) (HW3.out.drewN m1)).mono ?_
  rintro e w' ⟨rfl, m2, rfl⟩
  rw [show ((([] : List Int) ++ bitsOf 5 3 3).length : Int) = 3 from rfl]
  go_wp2_with fail
  have hr3 : RD W3 (w.heap.size + 1) B 3 := HK3.out.blk HR2.out (fun h => h.elim (fun h => by omega) (fun h => by simp [Value.ownBlock] at h))
  have HR3 := Lib.hid hr3
  clear hr3
  refine (left_any (w.heap.size + 1) B 3 (W3.drewN (m1 + m2)) HR3.out (by rw [HS1.out]; decide) (by decide) (by rw [HS1.out]; decide)).mono ?_
  rintro e w' ⟨rfl, m3, rfl⟩
  rw [HS1.out, show ((8 : Int) * ((1 : Nat) : Int) - 3) = 5 from rfl]
  go_wp2_with fail
  have hrest := rest_any (w.heap.size + 1) B 3 (W3.drewN (m1 + m2 + m3)) HR3.out (by rw [HS1.out]; decide) (by rw [HS1.out]; decide)
  rw [HR.out] at hrest
  refine hrest.mono ?_
  clear hrest
  rintro e w' ⟨rfl, m4, rfl⟩
  go_wp2_with fail
  go_ret
  refine ⟨rfl, Kp.drewN ?_ _⟩
  exact (HK1.out.trans HK2.out (fun i h => .inr (by omega))).trans HK3.out (fun i h => h.elim (fun h => .inr (by omega)) (fun h => by simp [Value.ownBlock] at h))

end Go.Proofs.Ytbhjckhhmcfpfaa

/- cost.Of, Most, Less, Sum: costs as pairs of whole numbers. -/
import Derived.Test.YtbhjckhhmcfpfaaVari
import Derived.Test.YtbhjckhhmcfpfaaFloat
import Derived.Test.YtbhjckhhmcfpfaaInts
namespace Go.Proofs.Ytbhjckhhmcfpfaa
open Go.RowKit
open Fb (fb fb_add fb_order)
set_option linter.unusedVariables false
set_option linter.unusedSimpArgs false

/-- A cost: so many tokens, so many bits. -/
def costV (t b : Nat) : Value := .complex .f64 (fb t) (fb b)
theorem fb_one : fb 1 = 4607182418800017408 := by decide
theorem fb_zero : fb 0 = 0 := by decide
theorem fb_most : fb 1099511627776 = 4787326403894837248 := by decide

theorem floatOf (n : Nat) : floatOfInt .f64 ((n : Nat) : Int) = fb n := by
  unfold floatOfInt fb
  have h : decide ((n : Int) < 0) = false := decide_eq_false (by omega)
  simp [FloatKind.nearest, FloatKind.encode, FloatKind.format, Ieee.Format.write, h]
set_option maxHeartbeats 400000 in
theorem most_any (w : World) : Calls Try.prog 79 #[] w fun e w' => e = .returned (costV 1099511627776 1099511627776) ∧ w = w' := by
  unfold costV
  rw [fb_most]
  go_enter Try.func79, Try.ntmps79
  go_wp2_with fail
  go_ret
  exact ⟨rfl, rfl⟩

set_option maxHeartbeats 400000 in
theorem costOf_ok (n : Nat) (w : World) (hn : n ≤ 4294967295) :
    Calls Try.prog 69 #[.int .i64 n] w fun e w' => e = .returned (costV 1 (8 * (num n).length)) ∧ Kp (fun _ => False) w w' := by
  have hl := numB_len 4 n
  obtain ⟨k, HK0⟩ : ∃ k, Hid (k = (num n).length) := ⟨_, Lib.hid rfl⟩
  have hk1 : 1 ≤ k := by rw [HK0.out]; exact hl.2
  have hk5 : k ≤ 5 := by rw [HK0.out]; exact hl.1
  have hkb : ((k : Int) == 0) = false := by simp; omega
  clear hl
  go_enter Try.func69, Try.ntmps69
  go_wp2_with fail
  refine (vlen_ok n w hn).mono ?_
  rintro e w' ⟨rfl, hk⟩
  rw [← HK0.out]
  have HK := Lib.hid hk
  clear hk
  go_wp2_with fail
  go_ret
  refine ⟨?_, HK.out⟩
  rw [← HK0.out]
  unfold costV
  rw [fb_one, ← floatOf (8 * k)]
  have : ((8 * k : Nat) : Int) = 8 * (k : Int) := by omega
  rw [this]
  rfl

set_option maxHeartbeats 400000 in
theorem less_any (t1 b1 t2 b2 : Nat) (w : World) (h1 : t1 < 2 ^ 53) (h2 : b1 < 2 ^ 53) (h3 : t2 < 2 ^ 53) (h4 : b2 < 2 ^ 53) :
    Calls Try.prog 36 #[costV t1 b1, costV t2 b2] w fun e w' => e = .returned (.bool (decide (t1 < t2 ∨ t1 = t2 ∧ b1 < b2))) ∧ w = w' := by
  have hT := fb_order t1 t2 h1 h3
  have hB := fb_order b1 b2 h2 h4
  change FloatKind.f64.format.order (fb t1) (fb t2) = _ at hT
  change FloatKind.f64.format.order (fb b1) (fb b2) = _ at hB
  clear h1 h2 h3 h4
  unfold costV
  generalize fb t1 = x1 at *
  generalize fb t2 = x2 at *
  generalize fb b1 = y1 at *
  generalize fb b2 = y2 at *
  by_cases he : t1 = t2
  · have hne : (FloatKind.f64.format.order x1 x2 != some Ordering.eq) = false := by rw [hT, he]; simp
    have hlt : (FloatKind.f64.format.order y1 y2 == some Ordering.lt) = decide (t1 < t2 ∨ t1 = t2 ∧ b1 < b2) := by
      rw [hB, Bool.eq_iff_iff]
      simp [he, Nat.compare_eq_lt]
    have HL := Lib.hid hlt
    clear hT hB hlt he
    go_enter Try.func36, Try.ntmps36
    go_wp2_with fail
    go_ret
    exact ⟨by rw [← HL.out]; rfl, rfl⟩
  · have hne : (FloatKind.f64.format.order x1 x2 != some Ordering.eq) = true := by rw [hT]; simp [Nat.compare_eq_eq, he]
    have hlt : (FloatKind.f64.format.order x1 x2 == some Ordering.lt) = decide (t1 < t2 ∨ t1 = t2 ∧ b1 < b2) := by
      rw [hT, Bool.eq_iff_iff]
      simp [he, Nat.compare_eq_lt]
    have HL := Lib.hid hlt
    clear hT hB hlt he
    go_enter Try.func36, Try.ntmps36
    go_wp2_with fail
    go_ret
    exact ⟨by rw [← HL.out]; rfl, rfl⟩

/-- A sum of costs. -/
theorem cost_sum (t1 b1 t2 b2 : Nat) (h1 : t1 + t2 < 2 ^ 53) (h2 : b1 + b2 < 2 ^ 53) : cSumBits .add .f64 (fb t1) (fb b1) (fb t2) (fb b2) = some (fb (t1 + t2), fb (b1 + b2)) := by
  unfold cSumBits floatBits
  show ((Ieee.double.add (fb t1) (fb t2)).bind _) = _
  rw [fb_add t1 t2 h1]
  show ((Ieee.double.add (fb b1) (fb b2)).bind _) = _
  rw [fb_add b1 b2 h2]
  rfl

/-- The bits of tokens as numbers. -/
def bitsSum (l : List Int) : Nat := (l.map fun x => 8 * (num x.toNat).length).sum
theorem bitsSum_snoc (l : List Int) (x : Int) : bitsSum (l ++ [x]) = bitsSum l + 8 * (num x.toNat).length := by simp [bitsSum]

set_option maxHeartbeats 1000000 in
theorem costSum_ok (A : Option Addr) (cap0 : Nat) (l : List Int) (w : World) (hr : RdS w A (ints .i64 l)) (hl : l.length ≤ 1000000) (hv : ∀ x, x ∈ l → 0 ≤ x ∧ x ≤ 4294967295) :
    Calls Try.prog 33 #[.slice A l.length cap0] w fun e w' => e = .returned (costV l.length (bitsSum l)) ∧ Kp (fun _ => False) w w' := by
  have HR := Lib.hid hr
  have HV := Lib.hid hv
  clear hr hv
  go_enter Try.func33, Try.ntmps33
  go_wp2_with fail
  go_loopw [3, 8] (fun v i wr => ∃ k : Nat, k ≤ l.length ∧ i = .int .i64 k ∧ ∃ b, v = costV k b ∧ Hid (b = bitsSum (l.take k)) ∧ b ≤ 40 * k ∧ Kp (fun _ => False) w wr) (fun _ i _ => l.length - (intOf i).toNat)
  case atStart => exact ⟨0, Nat.zero_le _, rfl, 0, by unfold costV; rw [fb_zero], by show _ = _; simp [bitsSum], by omega, Kp.refl _ _⟩
  case round =>
    obtain ⟨k, hk, rfl, b, rfl, HY, hb, hkp⟩ := hrel
    have HK := Lib.hid hkp
    clear hkp
    by_cases hlt : k < l.length
    · obtain ⟨x, bb, o, hx, rfl, hc⟩ := HR.out.at_ hlt
      have hc := HK.out.cell hc (fun h => h)
      obtain ⟨hx0, hx1⟩ := HV.out x (List.mem_of_getElem? hx)
      have HT := Lib.hid (take_snoc hx)
      clear hx
      obtain ⟨n, rfl⟩ := Int.eq_ofNat_of_zero_le hx0
      have hl5 := (numB_len 4 n).1
      have p53 : 2 ^ 53 = 9007199254740992 := by decide
      have hadd := fun w' => run_complex_sum (P := Try.prog) w' .add (.inl rfl) 64 .f64 _ _ _ _ _ _ (cost_sum k b 1 (8 * (num n).length) (by omega) (by unfold num; omega))
      have HA := Lib.hid hadd
      clear hadd p53
      go_wp2_with fail
      refine (costOf_ok n wr (by omega)).mono ?_
      rintro e w' ⟨rfl, hk2⟩
      have HK2 := Lib.hid (HK.out.trans hk2 (fun _ h => .inl h))
      have HA' := HA.out
      clear hk2
      unfold costV at *
      go_wp2_with fail
      refine ⟨⟨k + 1, by omega, by simp, _, rfl, ?_, ?_, HK2.out⟩, by simp only [intOf]; omega⟩
      · show _ = _
        rw [HT.out, bitsSum_snoc, HY.out]
        rfl
      · unfold num; omega
    · go_wp2_with fail
      go_ret
      obtain rfl : k = l.length := by omega
      refine ⟨?_, HK.out⟩
      rw [HY.out, List.take_length]
      rfl

end Go.Proofs.Ytbhjckhhmcfpfaa

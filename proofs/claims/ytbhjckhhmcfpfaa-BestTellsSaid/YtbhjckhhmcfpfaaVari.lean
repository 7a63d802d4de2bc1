/- Numbers of one to five bytes: vari.Put, vari.Len, the reference's Number and Bits. What each returns; nothing old is written. -/
import Derived.Test.YtbhjckhhmcfpfaaWriter
namespace Go.Proofs.Ytbhjckhhmcfpfaa
open Go.RowKit
set_option linter.unusedVariables false
set_option linter.unusedSimpArgs false

/-- A number as bytes. -/
def numB : Nat → Nat → List Int
  | 0, n => [(n : Int)]
  | f + 1, n => if n < 128 then [(n : Int)] else ((128 + n % 128 : Nat) : Int) :: numB f (n / 128)
def num (n : Nat) : List Int := numB 4 n
theorem numB_len (f n : Nat) : (numB f n).length ≤ f + 1 ∧ 1 ≤ (numB f n).length := by
  induction f generalizing n with
  | zero => simp [numB]
  | succ f ih =>
    simp only [numB]
    split
    · simp
    · have := ih (n / 128); simp only [List.length_cons]; omega

theorem numB_small (f m : Nat) (h : m < 128) : numB f m = [(m : Int)] := by
  cases f with
  | zero => rfl
  | succ f => simp [numB, h]
def VRel (n : Nat) (m f : Nat) (acc : List Int) (v : Value) (w wr : World) : Prop :=
  m < 128 ^ (f + 1) ∧ numB 4 n = acc ++ numB f m ∧ acc.length + f = 4 ∧ wr.ownsRow w.heap.size 5 1 v acc.length (ints .u8 acc) ∧ Kp (fun _ => False) w wr

set_option maxRecDepth 100000 in
set_option maxHeartbeats 1000000 in
theorem vput_ok (n : Nat) (w : World) (hn : n ≤ 4294967295) :
    Calls Try.prog 104 #[.int .i64 n] w fun e w' => e = .returned (.tuple #[.string (strOfNums (num n)), .bool true]) ∧ Kp (fun _ => False) w w' := by
  have h1 : ¬ (n : Int) < 0 := by omega
  have h2 : ¬ 4294967295 < (n : Int) := by omega
  go_enter Try.func104, Try.ntmps104
  go_wp2_with fail
  go_loopw [0, 4] (fun x v wr => ∃ (m f : Nat) (acc : List Int), x = .int .i64 m ∧ ∃ v2, v2 = v ∧ VRel n m f acc v2 w wr) (fun x _ _ => (intOf x).toNat)
  case atStart => exact ⟨n, 4, [], rfl, _, rfl, Nat.lt_of_le_of_lt hn (by decide), rfl, rfl, World.ownsRow_nil _ _ _ _, Kp.refl _ _⟩
  case round =>
    obtain ⟨m, f, acc, rfl, v2, rfl, hm, he, hf, ho, hk⟩ := hrel
    have HM := Lib.hid hm
    have HE := Lib.hid he
    have HO := Lib.hid ho
    have HK := Lib.hid hk
    have hm2 : m < 34359738368 := by
      have h := Nat.pow_le_pow_right (n := 128) (by omega) (show f + 1 ≤ 5 by omega)
      have : 128 ^ 5 = 34359738368 := by decide
      omega
    clear hm he ho hk
    obtain ⟨A1, cap1, rfl⟩ := own_slice HO.out
    by_cases hlt : m < 128
    · have hlt' : ¬ (128 : Int) ≤ m := by omega
      go_wp2_with (at_builtin; refine app1 w.heap.size rfl _ _ 25 5 (.int .u8 0) 1 rfl Try.underlying25 info_u8 rfl (by decide) (.slice A1 acc.length cap1) _ _ _ rfl rfl rfl HO.out HK.out.size (by omega) ?_; intro v3 w3 hown hgrow hfresh; have hcv := own_string (P := Try.prog) (src := 25) (dst := 9) (xs := acc ++ [(m : Int)]) Try.underlying25 Try.underlying5 Try.underlying9 (by simpa [ints, Int.emod_eq_of_lt, hlt] using hown); have HG := Lib.hid hgrow; have HO3 := Lib.hid hown; clear hgrow hown hfresh)
      go_ret2
      refine ⟨?_, HK.out.grown HG.out (fun i hi => .inr (own_lt HO.out hi).1)⟩
      have he2 := HE.out
      rw [numB_small f m hlt] at he2
      unfold num
      rw [he2]
      rfl
    · have hlt' : (128 : Int) ≤ m := by omega
      go_wp2_with (at_builtin; refine app1 w.heap.size rfl _ _ 25 5 (.int .u8 0) 1 rfl Try.underlying25 info_u8 rfl (by decide) (.slice A1 acc.length cap1) _ _ _ rfl rfl rfl HO.out HK.out.size (by omega) ?_; intro v3 w3 hown hgrow hfresh; have HG := Lib.hid hgrow; have HO3 := Lib.hid hown; clear hgrow hown hfresh)
      obtain ⟨f, rfl⟩ : ∃ f', f = f' + 1 := ⟨f - 1, by
        have := HM.out
        cases f with
        | zero => omega
        | succ f => omega⟩
      have he2 := HE.out
      have ho3 := HO3.out
      have hy : ∀ Y : Int, Y = ((128 + m % 128 : Nat) : Int) → (ints .u8 acc ++ [Value.int .u8 Y]) = ints .u8 (acc ++ [((128 + m % 128 : Nat) : Int)]) := by
        rintro Y rfl
        simp [ints]
      rw [hy _ (by omega)] at ho3
      have hs : numB (f + 1) m = ((128 + m % 128 : Nat) : Int) :: numB f (m / 128) := by simp only [numB]; rw [if_neg hlt]
      refine ⟨⟨m / 128, f, acc ++ [((128 + m % 128 : Nat) : Int)], by simp, _, rfl, ?_, ?_, ?_, ?_, HK.out.grown HG.out (fun i hi => .inr (own_lt HO.out hi).1)⟩, by simp only [intOf]; omega⟩
      · have := HM.out
        rw [Nat.pow_succ] at this
        exact Nat.div_lt_of_lt_mul (by rw [Nat.mul_comm]; exact this)
      · rw [he2, hs, List.append_assoc]; rfl
      · simp; omega
      · simpa using ho3

set_option maxRecDepth 100000 in
set_option maxHeartbeats 1000000 in
theorem rnum_ok (n : Nat) (w : World) (hn : n ≤ 4294967295) :
    Calls Try.prog 81 #[.int .i64 n] w fun e w' => e = .returned (.tuple #[.string (strOfNums (num n)), .bool true]) ∧ Kp (fun _ => False) w w' := by
  have h1 : ¬ (n : Int) < 0 := by omega
  have h2 : ¬ 4294967295 < (n : Int) := by omega
  go_enter Try.func81, Try.ntmps81
  go_wp2_with fail
  go_loopw [0, 4] (fun x v wr => ∃ (m f : Nat) (acc : List Int), x = .int .i64 m ∧ ∃ v2, v2 = v ∧ VRel n m f acc v2 w wr) (fun x _ _ => (intOf x).toNat)
  case atStart => exact ⟨n, 4, [], rfl, _, rfl, Nat.lt_of_le_of_lt hn (by decide), rfl, rfl, World.ownsRow_nil _ _ _ _, Kp.refl _ _⟩
  case round =>
    obtain ⟨m, f, acc, rfl, v2, rfl, hm, he, hf, ho, hk⟩ := hrel
    have HM := Lib.hid hm
    have HE := Lib.hid he
    have HO := Lib.hid ho
    have HK := Lib.hid hk
    have hm2 : m < 34359738368 := by
      have h := Nat.pow_le_pow_right (n := 128) (by omega) (show f + 1 ≤ 5 by omega)
      have : 128 ^ 5 = 34359738368 := by decide
      omega
    clear hm he ho hk
    obtain ⟨A1, cap1, rfl⟩ := own_slice HO.out
    by_cases hlt : m < 128
    · have hlt' : ¬ (128 : Int) ≤ m := by omega
      go_wp2_with (at_builtin; refine app1 w.heap.size rfl _ _ 25 5 (.int .u8 0) 1 rfl Try.underlying25 info_u8 rfl (by decide) (.slice A1 acc.length cap1) _ _ _ rfl rfl rfl HO.out HK.out.size (by omega) ?_; intro v3 w3 hown hgrow hfresh; have hcv := own_string (P := Try.prog) (src := 25) (dst := 9) (xs := acc ++ [(m : Int)]) Try.underlying25 Try.underlying5 Try.underlying9 (by simpa [ints, Int.emod_eq_of_lt, hlt] using hown); have HG := Lib.hid hgrow; have HO3 := Lib.hid hown; clear hgrow hown hfresh)
      go_ret2
      refine ⟨?_, HK.out.grown HG.out (fun i hi => .inr (own_lt HO.out hi).1)⟩
      have he2 := HE.out
      rw [numB_small f m hlt] at he2
      unfold num
      rw [he2]
      rfl
    · have hlt' : (128 : Int) ≤ m := by omega
      go_wp2_with (at_builtin; refine app1 w.heap.size rfl _ _ 25 5 (.int .u8 0) 1 rfl Try.underlying25 info_u8 rfl (by decide) (.slice A1 acc.length cap1) _ _ _ rfl rfl rfl HO.out HK.out.size (by omega) ?_; intro v3 w3 hown hgrow hfresh; have HG := Lib.hid hgrow; have HO3 := Lib.hid hown; clear hgrow hown hfresh)
      obtain ⟨f, rfl⟩ : ∃ f', f = f' + 1 := ⟨f - 1, by
        have := HM.out
        cases f with
        | zero => omega
        | succ f => omega⟩
      have he2 := HE.out
      have ho3 := HO3.out
      have hy : ∀ Y : Int, Y = ((128 + m % 128 : Nat) : Int) → (ints .u8 acc ++ [Value.int .u8 Y]) = ints .u8 (acc ++ [((128 + m % 128 : Nat) : Int)]) := by
        rintro Y rfl
        simp [ints]
      rw [hy _ (by omega)] at ho3
      have hs : numB (f + 1) m = ((128 + m % 128 : Nat) : Int) :: numB f (m / 128) := by simp only [numB]; rw [if_neg hlt]
      refine ⟨⟨m / 128, f, acc ++ [((128 + m % 128 : Nat) : Int)], by simp, _, rfl, ?_, ?_, ?_, ?_, HK.out.grown HG.out (fun i hi => .inr (own_lt HO.out hi).1)⟩, by simp only [intOf]; omega⟩
      · have := HM.out
        rw [Nat.pow_succ] at this
        exact Nat.div_lt_of_lt_mul (by rw [Nat.mul_comm]; exact this)
      · rw [he2, hs, List.append_assoc]; rfl
      · simp; omega
      · simpa using ho3

theorem strOfNums_size (l : List Int) : (strOfNums l).size = l.length := by simp [strOfNums, ByteArray.size]

set_option maxHeartbeats 400000 in
theorem vlen_ok (n : Nat) (w : World) (hn : n ≤ 4294967295) :
    Calls Try.prog 92 #[.int .i64 n] w fun e w' => e = .returned (.int .i64 (num n).length) ∧ Kp (fun _ => False) w w' := by
  go_enter Try.func92, Try.ntmps92
  go_wp2_with fail
  refine (vput_ok n w hn).mono ?_
  rintro e w' ⟨rfl, hk⟩
  have HK := Lib.hid hk
  have HS := Lib.hid (strOfNums_size (num n))
  generalize strOfNums (num n) = S at *
  clear hk
  go_wp2_with fail
  go_ret
  exact ⟨by rw [← HS.out]; rfl, HK.out⟩

set_option maxHeartbeats 400000 in
theorem rbits_ok (n : Nat) (w : World) (hn : n ≤ 4294967295) :
    Calls Try.prog 46 #[.int .i64 n] w fun e w' => e = .returned (.int .i64 (8 * (num n).length)) ∧ Kp (fun _ => False) w w' := by
  have hl := (numB_len 4 n).1
  go_enter Try.func46, Try.ntmps46
  go_wp2_with fail
  refine (rnum_ok n w hn).mono ?_
  rintro e w' ⟨rfl, hk⟩
  have HK := Lib.hid hk
  have HS := Lib.hid (strOfNums_size (num n))
  have hsz : (strOfNums (num n)).size ≤ 5 := by rw [strOfNums_size]; exact hl
  generalize strOfNums (num n) = S at *
  clear hk
  go_wp2_with fail
  go_ret
  exact ⟨by rw [← HS.out]; rfl, HK.out⟩

end Go.Proofs.Ytbhjckhhmcfpfaa

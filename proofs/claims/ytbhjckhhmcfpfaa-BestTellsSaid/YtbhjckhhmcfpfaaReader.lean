/- The bit reader's functions (bits.Reader): what each call returns and does. Conditions: the reader lies at a block of its own, its place is within its bytes. -/
import Derived.Test.YtbhjckhhmcfpfaaBase
namespace Go.Proofs.Ytbhjckhhmcfpfaa
open Go.RowKit
set_option linter.unusedVariables false
set_option linter.unusedSimpArgs false

def bitI (b : ByteArray) (k : Nat) : Int := ((b.data.toList.getD (k / 8) 0).toNat / 2 ^ (7 - k % 8) % 2 : Nat)
def pk (f : Nat → Int) : Nat → Int | 0 => 0 | n + 1 => 2 * pk f n + f n
/-- The bits from a place on, 0 behind the end. -/
def from_ (b : ByteArray) (a : Nat) (k : Nat) : Int := if a + k < 8 * b.size then bitI b (a + k) else 0
theorem bitI_le (b : ByteArray) (k : Nat) : 0 ≤ bitI b k ∧ bitI b k ≤ 1 := by unfold bitI; omega
theorem from_le (b : ByteArray) (a k : Nat) : 0 ≤ from_ b a k ∧ from_ b a k ≤ 1 := by unfold from_; split; exact bitI_le _ _; omega
theorem pk_le (f : Nat → Int) (hf : ∀ k, 0 ≤ f k ∧ f k ≤ 1) (n : Nat) : 0 ≤ pk f n ∧ pk f n < 2 ^ n := by
  induction n with
  | zero => simp [pk]
  | succ n ih => have := hf n; simp only [pk]; rw [Int.pow_succ]; omega
theorem pk_le32 (f : Nat → Int) (hf : ∀ k, 0 ≤ f k ∧ f k ≤ 1) (n : Nat) (hn : n ≤ 32) : 0 ≤ pk f n ∧ pk f n < 4294967296 := by
  refine ⟨(pk_le f hf n).1, Int.lt_of_lt_of_le (pk_le f hf n).2 ?_⟩
  have h := Nat.pow_le_pow_right (n := 2) (by omega) hn
  have e : ((2 ^ n : Nat) : Int) = (2 : Int) ^ n := by simp
  rw [← e]
  have e2 : 2 ^ 32 = 4294967296 := by decide
  omega
theorem wraps_i64 (n : Int) (h₀ : 0 ≤ n) (h₁ : n < 2 ^ 63) : IntKind.i64.wrap n = n := by rw [IntKind.wrap_i64]; omega
theorem and_one (x : Int) (h0 : 0 ≤ x) (h1 : x < 9223372036854775808) : bits .and .i64 x 1 = x % 2 := bits_mask .i64 63 (by decide) wraps_i64 1 (by decide) x h0 (by omega)
theorem or_bit (p y : Int) (h0 : 0 ≤ p) (h1 : p < 4294967296) (y0 : 0 ≤ y) (y1 : y ≤ 1) : bits .or .i64 (p * 2) y = 2 * p + y := by
  rw [bits_join .i64 63 (by decide) wraps_i64 1 (p * 2) y (by omega) (by omega) (by omega) y0 (by omega) (by omega)]; omega
theorem pk_step (b : ByteArray) (a k : Nat) (hk : a + k < 8 * b.size) (hk2 : k < 32) :
    bits .or .i64 (pk (from_ b a) k * 2) (bits .and .i64 (wrap64 (b[(a + k) / 8]'(by omega)).toNat / 2 ^ (7 - (a + k) % 8)) 1) = pk (from_ b a) (k + 1) := by
  have hp := pk_le32 (from_ b a) (from_le b a) k (by omega)
  have hb : (b.data.toList.getD ((a + k) / 8) 0) = b[(a + k) / 8]'(by omega) := by
    rw [List.getD_eq_getElem?_getD, List.getElem?_eq_getElem (by simp only [Array.length_toList]; show _ < b.size; omega)]; rfl
  have hs : pk (from_ b a) (k + 1) = 2 * pk (from_ b a) k + from_ b a k := rfl
  have hf : from_ b a k = (((b[(a + k) / 8]'(by omega)).toNat / 2 ^ (7 - (a + k) % 8) % 2 : Nat) : Int) := by unfold from_; rw [if_pos hk]; unfold bitI; rw [hb]
  have hv : (b[(a + k) / 8]'(by omega)).toNat < 256 := UInt8.toNat_lt _
  rw [hs, hf]
  generalize (b[(a + k) / 8]'(by omega)).toNat = v at *
  generalize 7 - (a + k) % 8 = r
  generalize pk (from_ b a) k = p at *
  have hw : wrap64 (v : Int) = v := by unfold wrap64; omega
  have hd : (v : Int) / 2 ^ r = ((v / 2 ^ r : Nat) : Int) := by simp
  have hl : v / 2 ^ r ≤ v := Nat.div_le_self _ _
  rw [hw, hd]
  generalize v / 2 ^ r = u at *
  rw [and_one _ (by omega) (by omega), or_bit _ _ hp.1 hp.2 (by omega) (by omega)]
  omega

/-- The reader at block g. -/
def RD (w : World) (g : Nat) (b : ByteArray) (a : Int) : Prop := w.heap[g]? = some (.cells #[.string b, .int .i64 a] 76 (0, 0))
theorem RD.c0 {w : World} {g : Nat} {b : ByteArray} {a : Int} (h : RD w g b a) : w.cell? ⟨g, 0, none⟩ = some (.string b) := (blk_cell h 0).trans rfl
theorem RD.c1 {w : World} {g : Nat} {b : ByteArray} {a : Int} (h : RD w g b a) : w.cell? ⟨g, 1, none⟩ = some (.int .i64 a) := (blk_cell h 1).trans rfl
theorem RD.f1 {w : World} {g : Nat} {b : ByteArray} {a : Int} (h : RD w g b a) : w.frozen? ⟨g, 1, none⟩ = false := blk_free h 1
theorem RD.set {w : World} {g : Nat} {b : ByteArray} {a : Int} (h : RD w g b a) (x : Int) : RD (w.setCell ⟨g, 1, none⟩ (.int .i64 x)) g b x := by
  have := blk_set h 1 (.int .i64 x)
  simpa [RD] using this

/-- The world was only drawn from. -/
def Dr (w w' : World) : Prop := ∃ n, w' = w.drewN n
theorem Dr.refl (w : World) : Dr w w := ⟨0, rfl⟩

set_option maxHeartbeats 400000 in
theorem left_any (g : Nat) (b : ByteArray) (a : Int) (w : World) (h : RD w g b a) (hb : b.size ≤ 140737488351232) (ha0 : 0 ≤ a) (ha : a ≤ 8 * b.size) :
    Calls Try.prog 16 #[.pointer (some ⟨g, 0, none⟩)] w fun e w' => e = .returned (.int .i64 (8 * b.size - a)) ∧ Dr w w' := by
  have c0 := h.c0
  have c1 := h.c1
  clear h
  go_enter Try.func16, Try.ntmps16
  go_wp2_with fail
  go_quiet (fail)
  go_wp2_with fail
  go_ret
  exact ⟨rfl, ⟨_, rfl⟩⟩

set_option maxHeartbeats 400000 in
theorem left_nil (w : World) : Calls Try.prog 16 #[.pointer none] w fun e w' => e = .returned (.int .i64 0) ∧ Dr w w' := by
  go_enter Try.func16, Try.ntmps16
  go_wp2_with fail
  go_ret
  exact ⟨rfl, ⟨0, rfl⟩⟩

set_option maxHeartbeats 400000 in
theorem peek_any (g : Nat) (b : ByteArray) (a n : Nat) (w : World) (h : RD w g b a) (hb : b.size ≤ 140737488351232) (ha : a ≤ 8 * b.size) (hn : n ≤ 32) :
    Calls Try.prog 11 #[.pointer (some ⟨g, 0, none⟩), .int .i64 n] w fun e w' => e = .returned (.int .i64 (pk (from_ b a) n)) ∧ Dr w w' := by
  have c0 := h.c0
  have c1 := h.c1
  have h1 : ¬ (n : Int) < 0 := by omega
  have h2 : ¬ (n : Int) > 32 := by omega
  have HH := Lib.hid h
  clear h
  go_enter Try.func11, Try.ntmps11
  go_wp2_with fail
  go_loopw [5, 15] (fun v i wr => ∃ k : Nat, k ≤ n ∧ i = .int .i64 k ∧ v = .int .i64 (pk (from_ b a) k) ∧ Dr w wr) (fun _ i _ => n - (intOf i).toNat)
  case atStart => exact ⟨0, Nat.zero_le _, rfl, rfl, ⟨0, rfl⟩⟩
  case round =>
    obtain ⟨k, hk, rfl, rfl, m, rfl⟩ := hrel
    have hp := pk_le32 (from_ b a) (from_le b a) k (by omega)
    by_cases hlt : k < n
    · go_wp2_with fail
      refine (left_any g b a (w.drewN m) HH.out hb (by omega) (by omega)).mono ?_
      rintro e w' ⟨rfl, m2, rfl⟩
      by_cases hin : a + k < 8 * b.size
      · have hin' : (k : Int) < 8 * b.size - a := by omega
        have HS := Lib.hid (pk_step b a k hin (by omega))
        go_wp2_with fail
        refine ⟨⟨k + 1, by omega, by simp, by rw [HS.out], ⟨_, rfl⟩⟩, by simp [intOf]; omega⟩
      · have hin' : ¬ (k : Int) < 8 * b.size - a := by omega
        have HS : Hid (pk (from_ b a) k * 2 = pk (from_ b a) (k + 1)) := by
          show _ = 2 * pk (from_ b a) k + from_ b a k
          unfold from_
          rw [if_neg hin]; omega
        go_wp2_with fail
        refine ⟨⟨k + 1, by omega, by simp, by rw [HS.out], ⟨_, rfl⟩⟩, by simp [intOf]; omega⟩
    · go_wp2_with fail
      go_ret
      obtain rfl : k = n := by omega
      exact ⟨rfl, ⟨_, rfl⟩⟩

set_option maxHeartbeats 400000 in
theorem peek_bad (v : Value) (n : Int) (w : World) (hn : n < 0 ∨ 32 < n) :
    Calls Try.prog 11 #[v, .int .i64 n] w fun e w' => e = .returned (.int .i64 0) ∧ Dr w w' := by
  rcases hn with hn | hn
  · go_enter Try.func11, Try.ntmps11
    go_wp2_with fail
    go_ret
    exact ⟨rfl, ⟨0, rfl⟩⟩
  · have h1 : ¬ n < 0 := by omega
    go_enter Try.func11, Try.ntmps11
    go_wp2_with fail
    go_ret
    exact ⟨rfl, ⟨0, rfl⟩⟩

set_option maxHeartbeats 400000 in
theorem peek_nil (n : Nat) (w : World) (hn : n ≤ 32) :
    Calls Try.prog 11 #[.pointer none, .int .i64 n] w fun e w' => e = .returned (.int .i64 0) ∧ Dr w w' := by
  have h1 : ¬ (n : Int) < 0 := by omega
  have h2 : ¬ (n : Int) > 32 := by omega
  go_enter Try.func11, Try.ntmps11
  go_wp2_with fail
  go_loopw [5, 15] (fun v i wr => ∃ k : Nat, k ≤ n ∧ i = .int .i64 k ∧ v = .int .i64 0 ∧ Dr w wr) (fun _ i _ => n - (intOf i).toNat)
  case atStart => exact ⟨0, Nat.zero_le _, rfl, rfl, ⟨0, rfl⟩⟩
  case round =>
    obtain ⟨k, hk, rfl, rfl, m, rfl⟩ := hrel
    by_cases hlt : k < n
    · go_wp2_with fail
      refine (left_nil (w.drewN m)).mono ?_
      rintro e w' ⟨rfl, m2, rfl⟩
      have hin' : ¬ (k : Int) < 0 := by omega
      go_wp2_with fail
      refine ⟨⟨k + 1, by omega, by simp, rfl, ⟨_, rfl⟩⟩, by simp [intOf]; omega⟩
    · go_wp2_with fail
      go_ret
      exact ⟨rfl, ⟨_, rfl⟩⟩

set_option maxHeartbeats 400000 in
theorem skip_ok (g : Nat) (b : ByteArray) (a n : Nat) (w : World) (h : RD w g b a) (hb : b.size ≤ 140737488351232) (ha : a + n ≤ 8 * b.size) :
    Calls Try.prog 12 #[.pointer (some ⟨g, 0, none⟩), .int .i64 n] w fun e w' => e = .returned (.bool true) ∧ RD w' g b (a + n : Nat) ∧ Kp (· = g) w w' := by
  have c1 := h.c1
  have f1 := h.f1
  have h1 : ¬ (n : Int) < 0 := by omega
  have HH := Lib.hid h
  clear h
  go_enter Try.func12, Try.ntmps12
  go_wp2_with fail
  refine (left_any g b a w HH.out hb (by omega) (by omega)).mono ?_
  rintro e w' ⟨rfl, m2, rfl⟩
  have hin' : ¬ (8 * b.size - a : Int) < n := by omega
  go_wp2_with fail
  go_ret
  exact ⟨rfl, RD.set (w := w.drewN m2) HH.out _, ((Kp.refl (· = g) w).drewN m2).setCell (.inl rfl) _⟩

set_option maxHeartbeats 400000 in
theorem skip_bad (g : Nat) (b : ByteArray) (a : Nat) (n : Int) (w : World) (h : RD w g b a) (hb : b.size ≤ 140737488351232) (ha : a ≤ 8 * b.size) (hn : n < 0 ∨ 8 * b.size < a + n) :
    Calls Try.prog 12 #[.pointer (some ⟨g, 0, none⟩), .int .i64 n] w fun e w' => e = .returned (.bool false) ∧ Dr w w' := by
  have HH := Lib.hid h
  clear h
  by_cases h0 : n < 0
  · go_enter Try.func12, Try.ntmps12
    go_wp2_with fail
    go_ret
    exact ⟨rfl, ⟨0, rfl⟩⟩
  · have hn2 : (8 * b.size - a : Int) < n := by omega
    clear hn
    go_enter Try.func12, Try.ntmps12
    go_wp2_with fail
    refine (left_any g b a w HH.out hb (by omega) (by omega)).mono ?_
    rintro e w' ⟨rfl, m2, rfl⟩
    go_wp2_with fail
    go_ret
    exact ⟨rfl, ⟨_, rfl⟩⟩

set_option maxHeartbeats 400000 in
theorem skip_nil (n : Int) (w : World) : Calls Try.prog 12 #[.pointer none, .int .i64 n] w fun e w' => e = .returned (.bool false) ∧ Dr w w' := by
  go_enter Try.func12, Try.ntmps12
  go_wp2_with fail
  go_ret
  exact ⟨rfl, ⟨0, rfl⟩⟩

set_option maxHeartbeats 400000 in
theorem get_ok (g : Nat) (b : ByteArray) (a n : Nat) (w : World) (h : RD w g b a) (hb : b.size ≤ 140737488351232) (ha : a + n ≤ 8 * b.size) (hn : n ≤ 32) :
    Calls Try.prog 10 #[.pointer (some ⟨g, 0, none⟩), .int .i64 n] w fun e w' =>
      e = .returned (.tuple #[.int .i64 (pk (from_ b a) n), .bool true]) ∧ RD w' g b (a + n : Nat) ∧ Kp (· = g) w w' := by
  have h2 : ¬ (n : Int) > 32 := by omega
  have HH := Lib.hid h
  clear h
  go_enter Try.func10, Try.ntmps10
  go_wp2_with fail
  refine (peek_any g b a n w HH.out hb (by omega) hn).mono ?_
  rintro e w' ⟨rfl, m2, rfl⟩
  go_wp2_with fail
  refine (skip_ok g b a n (w.drewN m2) HH.out hb ha).mono ?_
  rintro e w' ⟨rfl, hr, hk⟩
  have HR := Lib.hid hr
  clear hr
  go_wp2_with fail
  go_ret2
  exact ⟨rfl, HR.out, ((Kp.refl _ w).drewN m2).trans hk (fun _ h => .inl h)⟩

set_option maxHeartbeats 400000 in
theorem get_big (v : Value) (n : Int) (w : World) (hn : 32 < n) :
    Calls Try.prog 10 #[v, .int .i64 n] w fun e w' => e = .returned (.tuple #[.int .i64 0, .bool false]) ∧ Dr w w' := by
  go_enter Try.func10, Try.ntmps10
  go_wp2_with fail
  go_ret2
  exact ⟨rfl, ⟨0, rfl⟩⟩

set_option maxHeartbeats 400000 in
theorem get_bad (g : Nat) (b : ByteArray) (a : Nat) (n : Int) (w : World) (h : RD w g b a) (hb : b.size ≤ 140737488351232) (ha : a ≤ 8 * b.size) (hn : n < 0 ∨ 8 * b.size < a + n) (hn2 : n ≤ 32) :
    Calls Try.prog 10 #[.pointer (some ⟨g, 0, none⟩), .int .i64 n] w fun e w' =>
      e = .returned (.tuple #[.int .i64 0, .bool false]) ∧ Dr w w' := by
  have HH := Lib.hid h
  have hp : ∃ x, Calls Try.prog 11 #[.pointer (some ⟨g, 0, none⟩), .int .i64 n] w fun e w' => e = .returned (.int .i64 x) ∧ Dr w w' := by
    by_cases h0 : n < 0
    · exact ⟨_, peek_bad _ n w (.inl h0)⟩
    · obtain ⟨m, rfl⟩ := Int.eq_ofNat_of_zero_le (Int.not_lt.1 h0)
      exact ⟨_, peek_any g b a m w h hb ha (by omega)⟩
  obtain ⟨x, hp⟩ := hp
  have HP := Lib.hid hp
  clear h hp
  go_enter Try.func10, Try.ntmps10
  go_wp2_with fail
  refine HP.out.mono ?_
  rintro e w' ⟨rfl, m2, rfl⟩
  go_wp2_with fail
  refine (skip_bad g b a n (w.drewN m2) HH.out hb ha hn).mono ?_
  rintro e w' ⟨rfl, m3, rfl⟩
  go_wp2_with fail
  go_ret2
  exact ⟨rfl, ⟨_, rfl⟩⟩

set_option maxHeartbeats 400000 in
theorem get_nil (n : Nat) (w : World) (hn : n ≤ 32) :
    Calls Try.prog 10 #[.pointer none, .int .i64 n] w fun e w' => e = .returned (.tuple #[.int .i64 0, .bool false]) ∧ Dr w w' := by
  have h2 : ¬ (n : Int) > 32 := by omega
  go_enter Try.func10, Try.ntmps10
  go_wp2_with fail
  refine (peek_nil n w hn).mono ?_
  rintro e w' ⟨rfl, m2, rfl⟩
  go_wp2_with fail
  refine (skip_nil n (w.drewN m2)).mono ?_
  rintro e w' ⟨rfl, m3, rfl⟩
  go_wp2_with fail
  go_ret2
  exact ⟨rfl, ⟨_, rfl⟩⟩

/-- Nothing is left but a byte's last bits, all 0. -/
def restB (b : ByteArray) (a : Nat) : Bool := decide (8 * b.size - a < 8 ∧ pk (from_ b a) (8 * b.size - a) = 0)

set_option maxHeartbeats 400000 in
theorem rest_any (g : Nat) (b : ByteArray) (a : Nat) (w : World) (h : RD w g b a) (hb : b.size ≤ 140737488351232) (ha : a ≤ 8 * b.size) :
    Calls Try.prog 17 #[.pointer (some ⟨g, 0, none⟩)] w fun e w' => e = .returned (.bool (restB b a)) ∧ Dr w w' := by
  have HH := Lib.hid h
  clear h
  by_cases h8 : 8 * b.size - a < 8
  · obtain ⟨n, hn⟩ : ∃ n : Nat, n = 8 * b.size - a := ⟨_, rfl⟩
    have hn8 : n < 8 := by omega
    have HN := Lib.hid hn
    clear hn
    have hc : (8 * b.size - a : Int) < 8 := by omega
    have he : (8 * b.size - a : Int) = (n : Int) := by have := HN.out; omega
    have HE := Lib.hid he
    clear he
    go_enter Try.func17, Try.ntmps17
    go_wp2_with fail
    refine (left_any g b a w HH.out hb (by omega) (by omega)).mono ?_
    rintro e w' ⟨rfl, m2, rfl⟩
    go_wp2_with fail
    refine (left_any g b a (w.drewN m2) HH.out hb (by omega) (by omega)).mono ?_
    rintro e w' ⟨rfl, m3, rfl⟩
    rw [HE.out]
    go_wp2_with fail
    refine (peek_any g b a n (w.drewN (m2 + m3)) HH.out hb ha (by omega)).mono ?_
    rintro e w' ⟨rfl, m4, rfl⟩
    go_wp2_with fail
    go_ret
    refine ⟨?_, ⟨_, rfl⟩⟩
    unfold restB
    rw [← HN.out]
    simp [hn8]
    rw [Bool.eq_iff_iff]
    simp
  · have hc : ¬ (8 * b.size - a : Int) < 8 := by omega
    go_enter Try.func17, Try.ntmps17
    go_wp2_with fail
    refine (left_any g b a w HH.out hb (by omega) (by omega)).mono ?_
    rintro e w' ⟨rfl, m2, rfl⟩
    go_wp2_with fail
    go_ret
    refine ⟨?_, ⟨_, rfl⟩⟩
    unfold restB
    simp [h8]

set_option maxHeartbeats 400000 in
theorem rest_nil (w : World) : Calls Try.prog 17 #[.pointer none] w fun e w' => e = .returned (.bool false) ∧ Dr w w' := by
  go_enter Try.func17, Try.ntmps17
  go_wp2_with fail
  go_ret
  exact ⟨rfl, ⟨0, rfl⟩⟩

set_option maxHeartbeats 400000 in
theorem newReader_any (b : ByteArray) (w : World) :
    Calls Try.prog 8 #[.string b] w fun e w' => e = .returned (.pointer (some ⟨w.heap.size, 0, none⟩)) ∧ w' = w.alloc (.cells #[.string b, .int .i64 0] 76) := by
  go_enter Try.func8, Try.ntmps8
  go_wp2_with fail
  go_ret
  exact ⟨rfl, rfl⟩

end Go.Proofs.Ytbhjckhhmcfpfaa

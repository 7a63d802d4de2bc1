/- Functions over lists of whole numbers: SameInts, Kraft, Used, Contains, code.Right. What each returns; nothing is written. -/
import Derived.Test.YtbhjckhhmcfpfaaPack
namespace Go.Proofs.Ytbhjckhhmcfpfaa
open Go.RowKit
set_option linter.unusedVariables false
set_option linter.unusedSimpArgs false

theorem RdS.at_ {w : World} {A : Option Addr} {l : List Int} (h : RdS w A (ints .i64 l)) {k : Nat} (hk : k < l.length) : ∃ x b o, l[k]? = some x ∧ A = some ⟨b, o, none⟩ ∧ w.cell? ⟨b, o + k, none⟩ = some (.int .i64 x) := by
  obtain ⟨b, o, h1, h2⟩ := h k (.int .i64 (l[k]'hk)) (by simp [ints, hk])
  exact ⟨l[k]'hk, b, o, List.getElem?_eq_getElem hk, h1, h2⟩

theorem info_int2 : (Try.prog.info? 3).map (fun i => (i.zero, i.size, i.bytes)) = some (some (.int .i64 0), 1, 8) := by kernel_rfl

theorem take_snoc {l : List Int} {k : Nat} {x : Int} (h : l[k]? = some x) : l.take (k + 1) = l.take k ++ [x] := by rw [List.take_add_one, h]; rfl

/-- How much of all codes there is. -/
def kraftT (x : Int) : Int := if 1 ≤ x ∧ x ≤ 15 then 2 ^ (15 - x).toNat else 0
def kraft (l : List Int) : Int := (l.map kraftT).sum
theorem kraft_snoc (l : List Int) (x : Int) : kraft (l ++ [x]) = kraft l + kraftT x := by simp [kraft]
theorem kraftT_le (x : Int) : 0 ≤ kraftT x ∧ kraftT x ≤ 32768 := by
  unfold kraftT
  split
  · have h := Nat.pow_le_pow_right (n := 2) (by omega) (show (15 - x).toNat ≤ 15 by omega)
    have e2 : 2 ^ 15 = 32768 := by decide
    have e : ((2 ^ (15 - x).toNat : Nat) : Int) = (2 : Int) ^ (15 - x).toNat := by simp
    rw [← e]
    generalize 2 ^ (15 - x).toNat = p at *
    omega
  · omega
theorem kraft_le (l : List Int) : 0 ≤ kraft l ∧ kraft l ≤ 32768 * l.length := by
  induction l with
  | nil => simp [kraft]
  | cons x l ih =>
    have := kraftT_le x
    have e : kraft (x :: l) = kraftT x + kraft l := by simp [kraft]
    rw [e]; simp only [List.length_cons]; omega

set_option maxHeartbeats 1000000 in
theorem kraft_any (A : Option Addr) (cap0 : Nat) (l : List Int) (w : World) (hr : RdS w A (ints .i64 l)) (hl : l.length ≤ 1000000000) :
    Calls Try.prog 74 #[.slice A l.length cap0] w fun e w' => e = .returned (.int .i64 (kraft l)) ∧ w = w' := by
  have HR := Lib.hid hr
  clear hr
  go_enter Try.func74, Try.ntmps74
  go_wp2_with fail
  go_loop [3, 8] (fun v i => ∃ k : Nat, k ≤ l.length ∧ i = .int .i64 k ∧ ∃ y, v = .int .i64 y ∧ Hid (y = kraft (l.take k)) ∧ 0 ≤ y ∧ y ≤ 32768 * k) (fun _ i => l.length - (intOf i).toNat)
  case atStart => exact ⟨0, Nat.zero_le _, rfl, 0, rfl, by show _ = _; simp [kraft], by omega, by omega⟩
  case round =>
    obtain ⟨k, hk, rfl, y, rfl, HY, hy0, hy1⟩ := hrel
    by_cases hlt : k < l.length
    · obtain ⟨x, b, o, hx, rfl, hc⟩ := HR.out.at_ hlt
      have HX := Lib.hid hx
      have HT := Lib.hid (take_snoc hx)
      clear hx
      by_cases hg : 1 ≤ x ∧ x ≤ 15
      · obtain ⟨hg1, hg2⟩ := hg
        have hK : Hid (kraftT x = 2 ^ (15 - x).toNat) := by show kraftT x = _; unfold kraftT; rw [if_pos ⟨hg1, hg2⟩]
        have hKl := kraftT_le x
        have HK2 : Hid (wrap64 (y + wrap64 (2 ^ (15 - x).toNat)) = y + kraftT x) := by
          show wrap64 (y + wrap64 (2 ^ (15 - x).toNat)) = y + kraftT x
          rw [← hK.out]
          unfold wrap64
          omega
        clear hK
        go_wp2_with fail
        rw [HK2.out]
        refine ⟨⟨k + 1, by omega, by simp, _, rfl, by show _ = _; rw [HT.out, kraft_snoc, HY.out], by omega, by omega⟩, by simp only [intOf]; omega⟩
      · have hK : Hid (kraftT x = 0) := by show kraftT x = _; unfold kraftT; rw [if_neg hg]
        by_cases hx1 : 1 ≤ x
        · have hx2 : ¬ x ≤ 15 := by omega
          clear hg
          go_wp2_with fail
          refine ⟨⟨k + 1, by omega, by simp, _, rfl, by show _ = _; rw [HT.out, kraft_snoc, HY.out, hK.out, Int.add_zero], by omega, by omega⟩, by simp only [intOf]; omega⟩
        · clear hg
          go_wp2_with fail
          refine ⟨⟨k + 1, by omega, by simp, _, rfl, by show _ = _; rw [HT.out, kraft_snoc, HY.out, hK.out, Int.add_zero], by omega, by omega⟩, by simp only [intOf]; omega⟩
    · go_wp2_with fail
      go_ret
      obtain rfl : k = l.length := by omega
      refine ⟨?_, rfl⟩
      rw [HY.out, List.take_length]
      rfl

/-- How many are there. -/
def used (l : List Int) : Nat := l.countP (fun x => decide (0 < x))
set_option maxHeartbeats 1000000 in
theorem used_any (A : Option Addr) (cap0 : Nat) (l : List Int) (w : World) (hr : RdS w A (ints .i64 l)) (hl : l.length ≤ 1000000000) :
    Calls Try.prog 75 #[.slice A l.length cap0] w fun e w' => e = .returned (.int .i64 (used l)) ∧ w = w' := by
  have HR := Lib.hid hr
  clear hr
  go_enter Try.func75, Try.ntmps75
  go_wp2_with fail
  go_loop [3, 8] (fun v i => ∃ k : Nat, k ≤ l.length ∧ i = .int .i64 k ∧ ∃ y : Nat, v = .int .i64 y ∧ Hid (y = used (l.take k)) ∧ y ≤ k) (fun _ i => l.length - (intOf i).toNat)
  case atStart => exact ⟨0, Nat.zero_le _, rfl, 0, rfl, by show _ = _; simp [used], by omega⟩
  case round =>
    obtain ⟨k, hk, rfl, y, rfl, HY, hy1⟩ := hrel
    by_cases hlt : k < l.length
    · obtain ⟨x, b, o, hx, rfl, hc⟩ := HR.out.at_ hlt
      have HX := Lib.hid hx
      have HT := Lib.hid (take_snoc hx)
      clear hx
      by_cases hg : 0 < x
      · go_wp2_with fail
        refine ⟨⟨k + 1, by omega, by simp, y + 1, by simp, by show _ = _; rw [HT.out, HY.out]; simp [used, hg], by omega⟩, by simp only [intOf]; omega⟩
      · go_wp2_with fail
        refine ⟨⟨k + 1, by omega, by simp, y, rfl, by show _ = _; rw [HT.out, HY.out]; simp [used, hg], by omega⟩, by simp only [intOf]; omega⟩
    · go_wp2_with fail
      go_ret
      obtain rfl : k = l.length := by omega
      refine ⟨?_, rfl⟩
      rw [HY.out, List.take_length]
      rfl

/-- Does the list hold x? -/
def hasB (l : List Int) (x : Int) : Bool := l.any (fun y => x == y)
set_option maxHeartbeats 1000000 in
theorem index_any (A : Option Addr) (cap0 : Nat) (l : List Int) (x : Int) (w : World) (hr : RdS w A (ints .i64 l)) (hl : l.length ≤ 1000000000) :
    Calls Try.prog 98 #[.slice A l.length cap0, .int .i64 x] w fun e w' => (∃ i : Int, e = .returned (.int .i64 i) ∧ decide (0 ≤ i) = hasB l x) ∧ w = w' := by
  have HR := Lib.hid hr
  clear hr
  go_enter Try.func98, Try.ntmps98
  go_wp2_with fail
  go_loop [8] (fun i => ∃ k : Nat, k ≤ l.length ∧ i = .int .i64 k ∧ Hid (hasB (l.take k) x = false)) (fun i => l.length - (intOf i).toNat)
  case atStart => exact ⟨0, Nat.zero_le _, rfl, by show _ = _; simp [hasB]⟩
  case round =>
    obtain ⟨k, hk, rfl, HY⟩ := hrel
    by_cases hlt : k < l.length
    · obtain ⟨z, b, o, hz, rfl, hc⟩ := HR.out.at_ hlt
      have HX := Lib.hid hz
      have HT := Lib.hid (take_snoc hz)
      clear hz
      by_cases hg : x = z
      · subst hg
        go_wp2_with fail
        go_ret
        refine ⟨⟨k, rfl, ?_⟩, rfl⟩
        have : hasB l x = true := by
          unfold hasB; rw [List.any_eq_true]; exact ⟨x, List.mem_of_getElem? HX.out, by simp⟩
        rw [this]; simp
      · have hgb : (x == z) = false := by simp [hg]
        go_wp2_with fail
        refine ⟨⟨k + 1, by omega, by simp, by show _ = _; rw [HT.out]; have := HY.out; unfold hasB at *; simp [hgb]; simpa using this⟩, by simp only [intOf]; omega⟩
    · go_wp2_with fail
      go_ret
      obtain rfl : k = l.length := by omega
      refine ⟨⟨-1, rfl, ?_⟩, rfl⟩
      have := HY.out
      rw [List.take_length] at this
      rw [this]; rfl
set_option maxHeartbeats 1000000 in
theorem contains_any (A : Option Addr) (cap0 : Nat) (l : List Int) (x : Int) (w : World) (hr : RdS w A (ints .i64 l)) (hl : l.length ≤ 1000000000) :
    Calls Try.prog 76 #[.slice A l.length cap0, .int .i64 x] w fun e w' => e = .returned (.bool (hasB l x)) ∧ w = w' := by
  have HR := Lib.hid hr
  clear hr
  go_enter Try.func76, Try.ntmps76
  go_wp2_with fail
  refine (index_any A cap0 l x w HR.out hl).mono ?_
  rintro e w' ⟨⟨i, rfl, hi⟩, rfl⟩
  have HI := Lib.hid hi
  clear hi
  go_wp2_with fail
  go_ret
  exact ⟨by rw [← HI.out]; rfl, rfl⟩

/-- May it not be a length? -/
def badL (n : Int) : Bool := decide (n < 0) || decide (15 < n)
set_option maxHeartbeats 400000 in
theorem right1_any (n : Int) (w : World) : Calls Try.prog 73 #[.int .i64 n] w fun e w' => e = .returned (.bool (badL n)) ∧ w = w' := by
  by_cases h : n < 0
  · go_enter Try.func73, Try.ntmps73
    go_wp2_with fail
    go_ret
    exact ⟨by simp [badL, h], rfl⟩
  · have hb : badL n = decide (15 < n) := by simp [badL, h]
    have HB := Lib.hid hb
    clear hb
    go_enter Try.func73, Try.ntmps73
    go_wp2_with fail
    go_ret
    exact ⟨by rw [HB.out]; rfl, rfl⟩

set_option maxHeartbeats 1000000 in
theorem indexFunc_any (A : Option Addr) (cap0 : Nat) (l : List Int) (w : World) (hr : RdS w A (ints .i64 l)) (hl : l.length ≤ 1000000000) :
    Calls Try.prog 97 #[.slice A l.length cap0, .func (Fn.func 73) #[] #[]] w fun e w' => (∃ i : Int, e = .returned (.int .i64 i) ∧ decide (0 ≤ i) = l.any badL) ∧ w = w' := by
  have HR := Lib.hid hr
  clear hr
  go_enter Try.func97, Try.ntmps97
  go_wp2_with fail
  go_loop [8] (fun i => ∃ k : Nat, k ≤ l.length ∧ i = .int .i64 k ∧ Hid ((l.take k).any badL = false)) (fun i => l.length - (intOf i).toNat)
  case atStart => exact ⟨0, Nat.zero_le _, rfl, by show _ = _; simp⟩
  case round =>
    obtain ⟨k, hk, rfl, HY⟩ := hrel
    by_cases hlt : k < l.length
    · obtain ⟨z, b, o, hz, rfl, hc⟩ := HR.out.at_ hlt
      have HX := Lib.hid hz
      have HT := Lib.hid (take_snoc hz)
      clear hz
      go_wp2_with fail
      refine (right1_any z w).mono ?_
      rintro e w' ⟨rfl, rfl⟩
      obtain ⟨r, HRr⟩ : ∃ r, Hid (r = badL z) := ⟨_, Lib.hid rfl⟩
      rw [← HRr.out]
      cases r with
      | true =>
        go_wp2_with fail
        go_ret
        refine ⟨⟨k, rfl, ?_⟩, rfl⟩
        have : l.any badL = true := by rw [List.any_eq_true]; exact ⟨z, List.mem_of_getElem? HX.out, HRr.out.symm⟩
        rw [this]; simp
      | false =>
        go_wp2_with fail
        refine ⟨⟨k + 1, by omega, by simp, by show _ = _; rw [HT.out, List.any_append, HY.out]; simp [← HRr.out]⟩, by simp only [intOf]; omega⟩
    · go_wp2_with fail
      go_ret
      obtain rfl : k = l.length := by omega
      refine ⟨⟨-1, rfl, ?_⟩, rfl⟩
      have := HY.out
      rw [List.take_length] at this
      rw [this]; rfl
set_option maxHeartbeats 1000000 in
theorem containsFunc_any (A : Option Addr) (cap0 : Nat) (l : List Int) (w : World) (hr : RdS w A (ints .i64 l)) (hl : l.length ≤ 1000000000) :
    Calls Try.prog 72 #[.slice A l.length cap0, .func (Fn.func 73) #[] #[]] w fun e w' => e = .returned (.bool (l.any badL)) ∧ w = w' := by
  have HR := Lib.hid hr
  clear hr
  go_enter Try.func72, Try.ntmps72
  go_wp2_with fail
  refine (indexFunc_any A cap0 l w HR.out hl).mono ?_
  rintro e w' ⟨⟨i, rfl, hi⟩, rfl⟩
  have HI := Lib.hid hi
  clear hi
  go_wp2_with fail
  go_ret
  exact ⟨by rw [← HI.out]; rfl, rfl⟩

/-- Whether there may be lengths: the error's number. -/
def rightE (l : List Int) : Int := if l.any badL then 1 else if kraft l = 32768 then 0 else if used l = 1 ∧ hasB l 1 = true then 0 else 8
set_option maxHeartbeats 1000000 in
theorem right_any (A : Option Addr) (cap0 : Nat) (l : List Int) (w : World) (hr : RdS w A (ints .i64 l)) (hl : l.length ≤ 1000000000) :
    Calls Try.prog 38 #[.slice A l.length cap0] w fun e w' => e = .returned (.int .i64 (rightE l)) ∧ w = w' := by
  have HR := Lib.hid hr
  clear hr
  obtain ⟨K, HK⟩ : ∃ K, Hid (K = kraft l) := ⟨_, Lib.hid rfl⟩
  obtain ⟨U, HU⟩ : ∃ U, Hid (U = used l) := ⟨_, Lib.hid rfl⟩
  obtain ⟨B, HB⟩ : ∃ B, Hid (B = l.any badL) := ⟨_, Lib.hid rfl⟩
  obtain ⟨C, HC⟩ : ∃ C, Hid (C = hasB l 1) := ⟨_, Lib.hid rfl⟩
  have hE : rightE l = if B then 1 else if K = 32768 then 0 else if U = 1 ∧ C = true then 0 else 8 := by rw [HB.out, HK.out, HU.out, HC.out]; rfl
  have HE := Lib.hid hE
  clear hE
  go_enter Try.func38, Try.ntmps38
  go_wp2_with fail
  refine (containsFunc_any A cap0 l w HR.out hl).mono ?_
  rintro e w' ⟨rfl, rfl⟩
  rw [← HB.out]
  go_wp2_with fail
  refine (kraft_any A cap0 l w HR.out hl).mono ?_
  rintro e w' ⟨rfl, rfl⟩
  rw [← HK.out]
  go_wp2_with fail
  refine (used_any A cap0 l w HR.out hl).mono ?_
  rintro e w' ⟨rfl, rfl⟩
  rw [← HU.out]
  by_cases h1 : U = 1
  · have h1b : ((U : Int) == 1) = true := by simp; omega
    go_wp2_with fail
    refine (contains_any A cap0 l 1 w HR.out hl).mono ?_
    rintro e w' ⟨rfl, rfl⟩
    rw [← HC.out]
    by_cases hk : K = 32768
    · have hkb : (K == 32768) = true := by simp [hk]
      cases B <;> cases C <;> (go_wp2_with fail; go_ret; exact ⟨by rw [HE.out]; simp [h1, hk], rfl⟩)
    · have hkb : (K == 32768) = false := by simp [hk]
      cases B <;> cases C <;> (go_wp2_with fail; go_ret; exact ⟨by rw [HE.out]; simp [h1, hk], rfl⟩)
  · have h1b : ((U : Int) == 1) = false := by simp; omega
    by_cases hk : K = 32768
    · have hkb : (K == 32768) = true := by simp [hk]
      cases B <;> (go_wp2_with fail; go_ret; exact ⟨by rw [HE.out]; simp [h1, hk], rfl⟩)
    · have hkb : (K == 32768) = false := by simp [hk]
      cases B <;> (go_wp2_with fail; go_ret; exact ⟨by rw [HE.out]; simp [h1, hk], rfl⟩)

set_option maxHeartbeats 1000000 in
theorem sameInts_any (A1 A2 : Option Addr) (cap1 cap2 : Nat) (l1 l2 : List Int) (w : World) (hr1 : RdS w A1 (ints .i64 l1)) (hr2 : RdS w A2 (ints .i64 l2)) (hl1 : l1.length ≤ 1000000000) (hl2 : l2.length ≤ 1000000000) :
    Calls Try.prog 28 #[.slice A1 l1.length cap1, .slice A2 l2.length cap2] w fun e w' => e = .returned (.bool (decide (l1 = l2))) ∧ Dr w w' := by
  have HR1 := Lib.hid hr1
  have HR2 := Lib.hid hr2
  clear hr1 hr2
  by_cases hll : l1.length = l2.length
  · have HLL := Lib.hid hll
    have hb : ((l1.length : Int) != l2.length) = false := by simp; omega
    have hll2 : l1.length ≤ l2.length := by omega
    clear hll
    go_enter Try.func28, Try.ntmps28
    go_wp2_with fail
    go_loopw [5] (fun i wr => ∃ k : Nat, k ≤ l1.length ∧ i = .int .i64 k ∧ Hid (l1.take k = l2.take k) ∧ Dr w wr) (fun i _ => l1.length - (intOf i).toNat)
    case atStart => exact ⟨0, Nat.zero_le _, rfl, by show _ = _; simp, Dr.refl _⟩
    case round =>
      obtain ⟨k, hk, rfl, HY, m, rfl⟩ := hrel
      by_cases hlt : k < l1.length
      · obtain ⟨z1, b1, o1, hz1, rfl, hc1⟩ := HR1.out.at_ hlt
        obtain ⟨z2, b2, o2, hz2, rfl, hc2⟩ := HR2.out.at_ (show k < l2.length by omega)
        have HX1 := Lib.hid hz1
        have HX2 := Lib.hid hz2
        have HT1 := Lib.hid (take_snoc hz1)
        have HT2 := Lib.hid (take_snoc hz2)
        clear hz1 hz2
        by_cases hg : z1 = z2
        · subst hg
          go_wp2_with fail
          go_quiet (fail)
          go_wp2_with fail
          refine ⟨⟨k + 1, by omega, by simp, by show _ = _; rw [HT1.out, HT2.out, HY.out], ⟨_, rfl⟩⟩, by simp only [intOf]; omega⟩
        · have hgb : (z1 != z2) = true := by simp [hg]
          go_wp2_with fail
          go_quiet (fail)
          go_wp2_with fail
          go_ret
          have hne : ¬ l1 = l2 := by
            rintro rfl
            have h1 := HX1.out
            rw [HX2.out] at h1
            injection h1 with h1
            exact hg h1.symm
          first | exact ⟨by simp [hne], ⟨_, rfl⟩⟩ | exact ⟨by simp [hne], ⟨_, World.drewN_drewN _ _ _⟩⟩
      · go_wp2_with fail
        go_ret
        have hall : l1 = l2 := by
          have h1 := HY.out
          rw [List.take_of_length_le (by omega), List.take_of_length_le (by have := HLL.out; omega)] at h1
          exact h1
        first | exact ⟨by simp [hall], ⟨_, rfl⟩⟩ | exact ⟨by simp [hall], ⟨_, World.drewN_drewN _ _ _⟩⟩
  · have hb : ((l1.length : Int) != l2.length) = true := by simp; omega
    have hne : ¬ l1 = l2 := by rintro rfl; exact hll rfl
    have HNE := Lib.hid hne
    clear hll hne
    go_enter Try.func28, Try.ntmps28
    go_wp2_with fail
    go_ret
    exact ⟨by simp [HNE.out], Dr.refl _⟩

section
variable {P : Program} {ops : Array Oper} {rest : List Oper} {o : Oper} {a : Act} {Q : Exit → Act → World → Prop}
/-- make([]T, n), T a whole number's type: at 'at_make'. -/
theorem make1 {W : World} (base : Nat) (hgd : o.guard = none) (l c : Operand) (t e : TypeId) (k : IntKind) (bytes : Nat) (hop : o.op = Op.makeSlice t l c)
    (ht : P.underlying t = some (.slice e)) (hinfo : (P.info? e).map (fun i => (i.zero, i.size, i.bytes)) = some (some (.int k 0), 1, bytes))
    (kl kc : IntKind) (n : Nat) (hl : a.eval l = .int kl n) (hc : a.eval c = .int kc n) (b2 : bytes * n ≤ 281474976710656) (b3 : n ≤ 9223372036854775807) (hbase : base ≤ W.heap.size)
    (h : ∀ w1, w1.ownsRow base e 1 (.slice (some ⟨W.heap.size, 0, none⟩) n n) n (ints k (List.replicate n 0)) → W.grownBy w1 none → wpList P ops Q rest (a.put o.dst (.slice (some ⟨W.heap.size, 0, none⟩) n n)) w1) :
    wpList P ops Q (o :: rest) a W := by
  obtain ⟨i0, hi, hzz⟩ := Option.map_eq_some_iff.1 hinfo
  simp only [Prod.mk.injEq] at hzz
  obtain ⟨hz0, hz1, hz2⟩ := hzz
  refine wpList_make_full W hgd l c t hop base e i0 (.int k 0) 1 ht hi hz0 hz1 kl kc n n n hl hc rfl rfl (by rw [hz2]; exact b2) (by simp only [maxLen]; omega) hbase ?_
  intro w1 h1 h2
  refine h w1 ?_ h2
  have : (madeCells (Value.int k 0).cells (n * 1)).toList = ints k (List.replicate n 0) := by
    apply List.ext_getElem
    · simp [madeCells, ints]
    · intro i h1 h2
      have hcl : (Value.int k 0).cells = #[Value.int k 0] := rfl
      simp [ints, madeCells, Nat.mod_one, hcl]
  rwa [this] at h1
end

/-- One pass over the symbols: those of length n get the next codes. -/
def passTo (l : List Int) (n : Int) (st : List Int × Int) : Nat → List Int × Int
  | 0 => st
  | k + 1 => let p := passTo l n st k; if l.getD k 0 = n then (p.1.set k p.2, p.2 + 1) else p
def codesTo (l : List Int) : Nat → List Int × Int
  | 0 => (List.replicate l.length 0, 0)
  | n + 1 => let p := codesTo l n; passTo l (n + 1 : Nat) (p.1, p.2 * 2) l.length
/-- The codes of lengths. -/
def codes (l : List Int) : List Int := (codesTo l 15).1
theorem passTo_bd (l : List Int) (n : Int) (st : List Int × Int) (h0 : 0 ≤ st.2) (k : Nat) : (passTo l n st k).1.length = st.1.length ∧ st.2 ≤ (passTo l n st k).2 ∧ (passTo l n st k).2 ≤ st.2 + k := by
  induction k with
  | zero => exact ⟨rfl, Int.le_refl _, by simp [passTo]⟩
  | succ k ih =>
    simp only [passTo]
    split
    · simp only [List.length_set]; omega
    · omega
theorem codesTo_bd (l : List Int) (n : Nat) : (codesTo l n).1.length = l.length ∧ 0 ≤ (codesTo l n).2 ∧ (codesTo l n).2 ≤ l.length * (2 ^ n - 1) := by
  induction n with
  | zero => simp [codesTo]
  | succ n ih =>
    obtain ⟨h1, h2, h3⟩ := ih
    have h := passTo_bd l (n + 1 : Nat) ((codesTo l n).1, (codesTo l n).2 * 2) (by simp; omega) l.length
    obtain ⟨g1, g2, g3⟩ := h
    simp only [codesTo]
    refine ⟨by rw [g1]; exact h1, by simp only [] at g2; omega, ?_⟩
    simp only [] at g3
    have e : (2 : Int) ^ (n + 1) - 1 = 2 * (2 ^ n - 1) + 1 := by rw [Int.pow_succ]; omega
    rw [e, Int.mul_add, Int.mul_one, Int.mul_left_comm]
    generalize (l.length : Int) * (2 ^ n - 1) = q at *
    omega
theorem codesTo_15 (l : List Int) (hl : l.length ≤ 1000000) (n : Nat) (hn : n ≤ 15) : (codesTo l n).1.length = l.length ∧ 0 ≤ (codesTo l n).2 ∧ (codesTo l n).2 ≤ 32768000000 := by
  obtain ⟨h1, h2, h3⟩ := codesTo_bd l n
  refine ⟨h1, h2, Int.le_trans h3 ?_⟩
  have h := Nat.pow_le_pow_right (n := 2) (by omega) hn
  have e2 : 2 ^ 15 = 32768 := by decide
  have e : ((2 ^ n : Nat) : Int) = (2 : Int) ^ n := by simp
  rw [← e]
  have h4 : ((2 ^ n : Nat) : Int) - 1 ≤ 32768 := by omega
  have h5 := Nat.two_pow_pos n
  exact Int.le_trans (Int.mul_le_mul (show (l.length : Int) ≤ 1000000 by omega) h4 (by omega) (by decide)) (by decide)
theorem codesTo_pass (l : List Int) (n : Nat) : codesTo l (n + 1) = passTo l (n + 1 : Nat) ((codesTo l n).1, (codesTo l n).2 * 2) l.length := rfl

set_option maxHeartbeats 1000000 in
theorem codeOf_bad (A : Option Addr) (cap0 : Nat) (l : List Int) (w : World) (hr : RdS w A (ints .i64 l)) (hl : l.length ≤ 1000000) (hE : rightE l ≠ 0) :
    Calls Try.prog 37 #[.slice A l.length cap0] w fun e w' => e = .returned (.tuple #[.slice none 0 0, .int .i64 (rightE l)]) ∧ w = w' := by
  have HR := Lib.hid hr
  clear hr
  have heb : (rightE l != 0) = true := by simp [hE]
  generalize hE2 : rightE l = E at *
  have HE2 := Lib.hid hE2
  clear hE hE2
  go_enter Try.func37, Try.ntmps37
  go_wp2_with fail
  refine (right_any A cap0 l w HR.out (by omega)).mono ?_
  rintro e w' ⟨rfl, rfl⟩
  rw [HE2.out]
  go_wp2_with fail
  go_ret2
  exact ⟨rfl, rfl⟩

def OfRel (l : List Int) (base g : Nat) (st : List Int × Int) (w wr : World) : Prop :=
  wr.ownsRow base 3 1 (.slice (some ⟨g, 0, none⟩) l.length l.length) l.length (ints .i64 st.1) ∧ Kp (fun _ => False) w wr

set_option maxRecDepth 100000 in
set_option maxHeartbeats 1000000 in
theorem codeOf_ok (A : Option Addr) (cap0 : Nat) (l : List Int) (w : World) (hr : RdS w A (ints .i64 l)) (hl : l.length ≤ 1000000) (hE : rightE l = 0) :
    Calls Try.prog 37 #[.slice A l.length cap0] w fun e w' => ∃ g, w.heap.size ≤ g ∧ e = .returned (.tuple #[.slice (some ⟨g, 0, none⟩) l.length l.length, .int .i64 0]) ∧
      w'.ownsRow w.heap.size 3 1 (.slice (some ⟨g, 0, none⟩) l.length l.length) l.length (ints .i64 (codes l)) ∧ Kp (fun _ => False) w w' := by
  have HR := Lib.hid hr
  have HE := Lib.hid hE
  clear hr hE
  go_enter Try.func37, Try.ntmps37
  go_wp2_with fail
  refine (right_any A cap0 l w HR.out (by omega)).mono ?_
  rintro e w' ⟨rfl, rfl⟩
  rw [HE.out]
  go_wp2_with (at_make; refine make1 w.heap.size rfl _ _ 30 3 .i64 8 rfl Try.underlying30 info_int2 .i64 .i64 l.length rfl rfl (by omega) (by omega) (Nat.le_refl _) ?_; intro w1 hown hgrow; have HO := Lib.hid hown; have HG := Lib.hid hgrow; clear hown hgrow)
  obtain ⟨g, HG0⟩ : ∃ g, Hid (g = w.heap.size) := ⟨_, Lib.hid rfl⟩
  have hg : w.heap.size ≤ g := by rw [HG0.out]; exact Nat.le_refl _
  have HO3 : Hid (w1.ownsRow w.heap.size 3 1 (.slice (some ⟨g, 0, none⟩) l.length l.length) l.length (ints .i64 (List.replicate l.length 0))) := by
    have h1 := HO.out
    rw [HG0.out]
    exact h1
  rw [← HG0.out]
  have hK1 : Kp (fun _ => False) w w1 := (Kp.refl _ w).grown HG.out (fun k hk => by cases hk)
  have HK1 := Lib.hid hK1
  clear hK1 HG
  go_loopw [6, 7] (fun x i wr => ∃ n : Nat, n ≤ 15 ∧ i = .int .i64 (n + 1) ∧ ∃ y, x = .int .i64 y ∧ Hid (y = (codesTo l n).2) ∧ OfRel l w.heap.size g (codesTo l n) w wr) (fun _ i _ => (16 - intOf i).toNat)
  case atStart => exact ⟨0, by omega, rfl, 0, rfl, Lib.hid rfl, HO3.out, HK1.out⟩
  case round =>
    obtain ⟨n, hn, rfl, y, rfl, HY, hrl⟩ := hrel
    have HRL := Lib.hid hrl
    clear hrl HO HO3 HK1
    have hbd := codesTo_15 l hl n hn
    rw [← HY.out] at hbd
    obtain ⟨hb1, hb2, hb3⟩ := hbd
    by_cases hlt : n < 15
    · have hlt' : (n : Int) + 1 ≤ 15 := by omega
      go_wp2_with fail
      obtain ⟨wo, rfl⟩ : ∃ wo : World, wo = wr := ⟨_, rfl⟩
      go_loopw [6, 25] (fun x i wr => ∃ k : Nat, k ≤ l.length ∧ i = .int .i64 k ∧ ∃ z, x = .int .i64 z ∧ Hid (z = (passTo l (n + 1 : Nat) ((codesTo l n).1, y * 2) k).2) ∧ OfRel l w.heap.size g (passTo l (n + 1 : Nat) ((codesTo l n).1, y * 2) k) w wr) (fun _ i _ => l.length - (intOf i).toNat)
      case atStart => exact ⟨0, Nat.zero_le _, rfl, _, rfl, Lib.hid rfl, HRL.out⟩
      case round =>
        obtain ⟨k, hk, rfl, z, rfl, HZ, ho, hkp⟩ := hrel
        have HO := Lib.hid ho
        have HKP := Lib.hid hkp
        clear ho hkp
        have hpb := passTo_bd l (n + 1 : Nat) ((codesTo l n).1, y * 2) (by simp; omega) k
        rw [← HZ.out] at hpb
        obtain ⟨hp1, hp2, hp3⟩ := hpb
        simp only [] at hp1 hp2 hp3
        by_cases hkl : k < l.length
        · obtain ⟨x, b, o, hx, rfl, hc⟩ := HR.out.at_ hkl
          have hc := HKP.out.cell hc (fun h => h)
          have hgd : l.getD k 0 = x := by rw [List.getD_eq_getElem?_getD, hx]; rfl
          have HGD := Lib.hid hgd
          clear hx hgd
          have hpass : passTo l (n + 1 : Nat) ((codesTo l n).1, y * 2) (k + 1) = if x = (n + 1 : Nat) then ((passTo l (n + 1 : Nat) ((codesTo l n).1, y * 2) k).1.set k z, z + 1) else passTo l (n + 1 : Nat) ((codesTo l n).1, y * 2) k := by
            rw [HZ.out, ← HGD.out]; rfl
          have HPS := Lib.hid hpass
          clear hpass
          obtain ⟨st, HST⟩ : ∃ st, Hid (st = passTo l (n + 1 : Nat) ((codesTo l n).1, y * 2) k) := ⟨_, Lib.hid rfl⟩
          rw [← HST.out] at HO HPS
          obtain ⟨e3, e4⟩ := own_cell HO.out k hkl
          by_cases hxn : x = (n + 1 : Nat)
          · have hxb : (x == (n : Int) + 1) = true := by simp [hxn]
            have hx2 := HPS.out
            rw [if_pos hxn] at hx2
            have HX2 := Lib.hid hx2
            clear hx2 hxn
            go_wp2_with fail
            refine ⟨⟨k + 1, by omega, by simp, z + 1, rfl, by show _ = _; rw [HX2.out], ?_, ?_⟩, by simp only [intOf]; omega⟩
            · rw [HX2.out]; exact own_store HO.out k z
            · exact HKP.out.setCell (.inr hg) _
          · have hxb : (x == (n : Int) + 1) = false := by simp; omega
            have hx2 := HPS.out
            rw [if_neg hxn] at hx2
            have HX2 := Lib.hid hx2
            clear hx2 hxn
            go_wp2_with fail
            refine ⟨⟨k + 1, by omega, by simp, z, rfl, by show _ = _; rw [HX2.out, HST.out]; exact HZ.out, ?_, HKP.out⟩, by simp only [intOf]; omega⟩
            rw [HX2.out]; exact HO.out
        · go_wp2_with fail
          obtain rfl : k = l.length := by omega
          refine ⟨⟨n + 1, by omega, by simp, z, rfl, by show _ = _; rw [codesTo_pass, ← HY.out]; exact HZ.out, ?_, HKP.out⟩, by simp only [intOf]; omega⟩
          rw [codesTo_pass, ← HY.out]
          exact HO.out
    · have hlt' : ¬ (n : Int) + 1 ≤ 15 := by omega
      go_wp2_with fail
      go_ret2
      obtain rfl : n = 15 := by omega
      exact ⟨g, hg, rfl, HRL.out⟩

end Go.Proofs.Ytbhjckhhmcfpfaa

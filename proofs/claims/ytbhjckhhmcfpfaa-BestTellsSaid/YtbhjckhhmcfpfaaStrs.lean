/- Strings: HasPrefix, the reference's Find. What each returns; nothing old is written. -/
import Derived.Test.YtbhjckhhmcfpfaaInts
namespace Go.Proofs.Ytbhjckhhmcfpfaa
open Go.RowKit
set_option linter.unusedVariables false
set_option linter.unusedSimpArgs false

/-- Does s begin with p? -/
def pfx (s p : ByteArray) : Bool := p.toList.isPrefixOf s.toList

theorem pfx_iff (s p : ByteArray) : pfx s p = true ↔ p.toList <+: s.toList := List.isPrefixOf_iff_prefix

theorem pfx_take (s p : ByteArray) (h : p.size ≤ s.size) : ((s.extract 0 p.size).toList == p.toList) = pfx s p := by
  rw [Bool.eq_iff_iff, pfx_iff, beq_iff_eq, ByteArray.toList_eq, ByteArray.toList_eq, ByteArray.toList_eq, List.prefix_iff_eq_take]
  have hl : p.data.toList.length = p.size := Array.length_toList
  rw [hl]
  have : (s.extract 0 p.size).data.toList = s.data.toList.take p.size := by simp
  rw [this]
  exact eq_comm

theorem pfx_long (s p : ByteArray) (h : ¬ p.size ≤ s.size) : pfx s p = false := by
  rw [Bool.eq_false_iff]
  intro hp
  have := ((pfx_iff s p).mp hp).length_le
  rw [ByteArray.toList_eq, ByteArray.toList_eq] at this
  rw [Array.length_toList, Array.length_toList] at this
  exact h this

set_option maxHeartbeats 400000 in
theorem hasPrefixL_any (s p : ByteArray) (w : World) (hs : s.size ≤ 140737488351232) (hp : p.size ≤ 140737488351232) :
    Calls Try.prog 105 #[.string s, .string p] w fun e w' => e = .returned (.bool (pfx s p)) ∧ Dr w w' := by
  by_cases hle : p.size ≤ s.size
  · go_enter Try.func105, Try.ntmps105
    go_wp2_with fail
    rw [pfx_take s p hle]
    go_ret
    exact ⟨rfl, Dr.refl _⟩
  · go_enter Try.func105, Try.ntmps105
    go_wp2_with fail
    rw [← pfx_long s p hle]
    go_ret
    exact ⟨rfl, Dr.refl _⟩

set_option maxHeartbeats 400000 in
theorem hasPrefix_any (s p : ByteArray) (w : World) (hs : s.size ≤ 140737488351232) (hp : p.size ≤ 140737488351232) :
    Calls Try.prog 94 #[.string s, .string p] w fun e w' => e = .returned (.bool (pfx s p)) ∧ Dr w w' := by
  go_enter Try.func94, Try.ntmps94
  go_wp2_with fail
  refine (hasPrefixL_any s p w hs hp).mono ?_
  rintro e w' ⟨rfl, m, rfl⟩
  go_wp2_with fail
  go_ret
  exact ⟨rfl, ⟨_, rfl⟩⟩

theorem str_ne {s t : ByteArray} (h : ¬ s = t) : (s.toList == t.toList) = false := by
  rw [beq_eq_false_iff_ne]
  intro e
  rw [ByteArray.toList_eq, ByteArray.toList_eq] at e
  exact h (ByteArray.ext (Array.toList_inj.1 e))
/-- Byte strings as cells. -/
def strs (l : List ByteArray) : List Value := l.map .string
theorem RdS.atS {w : World} {A : Option Addr} {l : List ByteArray} (h : RdS w A (strs l)) {k : Nat} (hk : k < l.length) : ∃ x b o, l[k]? = some x ∧ A = some ⟨b, o, none⟩ ∧ w.cell? ⟨b, o + k, none⟩ = some (.string x) := by
  obtain ⟨b, o, h1, h2⟩ := h k (.string (l[k]'hk)) (by simp [strs, hk])
  exact ⟨l[k]'hk, b, o, List.getElem?_eq_getElem hk, h1, h2⟩

/-- The first place of a phrase; -1. -/
def findN (l : List ByteArray) (s : ByteArray) : Nat := l.findIdx (fun x => decide (x = s))
def findI (l : List ByteArray) (s : ByteArray) : Int := if findN l s < l.length then findN l s else -1
theorem findI_at {l : List ByteArray} {s : ByteArray} {k : Nat} (hk : l[k]? = some s) (hn : s ∉ l.take k) : findI l s = k := by
  obtain ⟨hkl, hk2⟩ := List.getElem?_eq_some_iff.1 hk
  have : findN l s = k := by
    unfold findN
    rw [List.findIdx_eq hkl]
    refine ⟨by simp [hk2], fun j hj => ?_⟩
    simp only [decide_eq_false_iff_not]
    rintro h
    exact hn (h ▸ List.mem_take_iff_getElem.2 ⟨j, by omega, rfl⟩)
  unfold findI
  rw [this, if_pos hkl]
theorem findI_none {l : List ByteArray} {s : ByteArray} (hn : s ∉ l) : findI l s = -1 := by
  unfold findI
  rw [if_neg]
  intro h
  obtain ⟨x, hx, hs⟩ := List.findIdx_lt_length.1 h
  exact hn (by simpa [of_decide_eq_true hs] using hx)

set_option maxHeartbeats 1000000 in
theorem find_any (A : Option Addr) (cap0 : Nat) (l : List ByteArray) (s : ByteArray) (w : World) (hr : RdS w A (strs l)) (hl : l.length ≤ 1000000000) :
    Calls Try.prog 68 #[.slice A l.length cap0, .string s] w fun e w' => e = .returned (.int .i64 (findI l s)) ∧ w = w' := by
  have HR := Lib.hid hr
  clear hr
  go_enter Try.func68, Try.ntmps68
  go_wp2_with fail
  go_loop [5] (fun i => ∃ k : Nat, k ≤ l.length ∧ i = .int .i64 k ∧ Hid (s ∉ l.take k)) (fun i => l.length - (intOf i).toNat)
  case atStart => exact ⟨0, Nat.zero_le _, rfl, by show ¬ _; simp⟩
  case round =>
    obtain ⟨k, hk, rfl, HY⟩ := hrel
    by_cases hlt : k < l.length
    · obtain ⟨z, b, o, hz, rfl, hc⟩ := HR.out.atS hlt
      have HX := Lib.hid hz
      have HT : l.take (k + 1) = l.take k ++ [z] := by rw [List.take_add_one, hz]; rfl
      have HT := Lib.hid HT
      clear hz
      by_cases hg : z = s
      · subst hg
        go_wp2_with fail
        go_ret
        refine ⟨?_, rfl⟩
        rw [findI_at HX.out HY.out]
        rfl
      · have hgb := str_ne hg
        go_wp2_with fail
        refine ⟨⟨k + 1, by omega, by simp, by show ¬ _; rw [HT.out, List.mem_append, not_or]; exact ⟨HY.out, by simp [Ne.symm hg]⟩⟩, by simp only [intOf]; omega⟩
    · go_wp2_with fail
      go_ret
      obtain rfl : k = l.length := by omega
      refine ⟨?_, rfl⟩
      have := HY.out
      rw [List.take_length] at this
      rw [findI_none this]
      rfl

/-- The lengths up to n of the phrases that stand at a place, the greatest first. -/
def standsTo (l : List ByteArray) (b : ByteArray) (at_ : Nat) : Nat → List Int
  | 0 => []
  | n + 1 => if 0 ≤ findI l (b.extract at_ (at_ + (n + 1))) then ((n + 1 : Nat) : Int) :: standsTo l b at_ n else standsTo l b at_ n
def stands (l : List ByteArray) (b : ByteArray) (at_ : Nat) : List Int := standsTo l b at_ (min 40 (b.size - at_))
theorem standsTo_len (l : List ByteArray) (b : ByteArray) (at_ n : Nat) : (standsTo l b at_ n).length ≤ n := by
  induction n with
  | zero => simp [standsTo]
  | succ n ih => simp only [standsTo]; split <;> (try simp only [List.length_cons]) <;> omega

set_option maxRecDepth 100000 in
set_option maxHeartbeats 1000000 in
theorem stands_any (A : Option Addr) (cap0 : Nat) (l : List ByteArray) (b : ByteArray) (at_ : Nat) (w : World) (hr : RdS w A (strs l)) (hl : l.length ≤ 1000000000) (hb : b.size ≤ 140737488351232) (hat : at_ ≤ b.size) :
    Calls Try.prog 31 #[.slice A l.length cap0, .string b, .int .i64 at_] w fun e w' => ∃ v, e = .returned v ∧ w'.ownsRow w.heap.size 3 1 v (stands l b at_).length (ints .i64 (stands l b at_)) ∧ Kp (fun _ => False) w w' := by
  have HR := Lib.hid hr
  clear hr
  obtain ⟨M, HM⟩ : ∃ M, Hid (M = min 40 (b.size - at_)) := ⟨_, Lib.hid rfl⟩
  have hM1 : M ≤ 40 := by rw [HM.out]; exact Nat.min_le_left _ _
  have hM2 : at_ + M ≤ b.size := by have := HM.out; omega
  have hmin : min (40 : Int) ((b.size : Int) - at_) = M := by have := HM.out; omega
  by_cases h40 : (40 : Int) ≤ b.size - at_
  all_goals
    go_enter Try.func31, Try.ntmps31
    go_wp2_with fail
    go_loopw [7, 8] (fun v i wr => ∃ (n : Nat) (acc : List Int), n ≤ M ∧ i = .int .i64 n ∧ Hid (stands l b at_ = acc ++ standsTo l b at_ n) ∧ acc.length + n ≤ 40 ∧ ∃ v2, v2 = v ∧ wr.ownsRow w.heap.size 3 1 v2 acc.length (ints .i64 acc) ∧ Kp (fun _ => False) w wr) (fun _ i _ => (intOf i).toNat)
    case atStart => exact ⟨M, [], Nat.le_refl _, by congr 1; omega, by show _ = _; unfold stands; rw [HM.out]; rfl, by simp; omega, _, rfl, World.ownsRow_nil _ _ _ _, Kp.refl _ _⟩
    case round =>
      obtain ⟨n, acc, hn, rfl, HY, hacc, v2, rfl, ho, hk⟩ := hrel
      have HO := Lib.hid ho
      have HK := Lib.hid hk
      clear ho hk
      by_cases hlt : 1 ≤ n
      · obtain ⟨n, rfl⟩ : ∃ m, n = m + 1 := ⟨n - 1, by omega⟩
        have hc1 : ((n + 1 : Nat) : Int) = (n : Int) + 1 := by omega
        obtain ⟨X, HX⟩ : ∃ X, Hid (X = b.extract at_ (at_ + (n + 1))) := ⟨_, Lib.hid rfl⟩
        obtain ⟨F, HF⟩ : ∃ F, Hid (F = findI l X) := ⟨_, Lib.hid rfl⟩
        obtain ⟨A1, cap1, rfl⟩ := own_slice HO.out
        go_wp2_with fail
        rw [← HX.out]
        refine (find_any A cap0 l X wr (HR.out.kp HK.out (fun _ _ _ h => h)) hl).mono ?_
        rintro e w' ⟨rfl, rfl⟩
        rw [← HF.out]
        by_cases hF : 0 ≤ F
        · go_wp2_with (at_builtin; refine app1 w.heap.size rfl _ _ 30 3 (.int .i64 0) 8 rfl Try.underlying30 info_int2 rfl (by decide) (.slice A1 acc.length cap1) _ _ (.int .i64 ((n + 1 : Nat) : Int)) rfl rfl rfl HO.out HK.out.size (by omega) ?_; intro v3 w3 hown hgrow hfresh; have HG := Lib.hid hgrow; have HO3 := Lib.hid hown; clear hgrow hown hfresh)
          refine ⟨⟨n, acc ++ [((n + 1 : Nat) : Int)], by omega, by simp, ?_, by simp; omega, _, rfl, ?_, HK.out.grown HG.out (fun i hi => .inr (own_lt HO.out hi).1)⟩, by simp only [intOf]; omega⟩
          · show _ = _
            rw [HY.out]
            simp only [standsTo]
            rw [← HX.out, ← HF.out, if_pos hF, List.append_assoc]
            rfl
          · simpa [ints] using HO3.out
        · go_wp2_with fail
          refine ⟨⟨n, acc, by omega, by simp, ?_, by omega, _, rfl, HO.out, HK.out⟩, by simp only [intOf]; omega⟩
          show _ = _
          rw [HY.out]
          simp only [standsTo]
          rw [← HX.out, ← HF.out, if_neg (by omega)]
      · have hlt' : ¬ (1 : Int) ≤ n := by omega
        go_wp2_with fail
        go_ret
        obtain rfl : n = 0 := by omega
        refine ⟨_, rfl, ?_, HK.out⟩
        have := HY.out
        rw [this]
        simp only [standsTo, List.append_nil]
        exact HO.out

/-- Findings lie in the list. -/
theorem findI_bd (l : List ByteArray) (s : ByteArray) : -1 ≤ findI l s ∧ findI l s < l.length := by
  unfold findI
  split <;> omega
/-- A byte of a string as a number. -/
def byteAt (b : ByteArray) (i : Nat) : Nat := (b.data.toList.getD i 0).toNat
theorem byteAt_lt (b : ByteArray) (i : Nat) : byteAt b i < 256 := (b.data.toList.getD i 0).toNat_lt
theorem byteAt_get (b : ByteArray) (i : Nat) (h : i < b.size) : b[i].toNat = byteAt b i := by
  unfold byteAt
  have hl : i < b.data.toList.length := by rw [Array.length_toList]; exact h
  rw [List.getD_eq_getElem?_getD, List.getElem?_eq_getElem hl]
  rfl
theorem wrap_byte (b : ByteArray) (i : Nat) (h : i < b.size) : wrap64 (b[i].toNat : Int) = (byteAt b i : Int) := by
  rw [byteAt_get b i h]
  have := byteAt_lt b i
  unfold wrap64
  omega
/-- The token of n bytes at a place: the phrase, or the byte. -/
def tokenN (l : List ByteArray) (b : ByteArray) (at_ n : Nat) : Nat := if 0 ≤ findI l (b.extract at_ (at_ + n)) then 256 + (findI l (b.extract at_ (at_ + n))).toNat else byteAt b at_
set_option maxHeartbeats 1000000 in
theorem token_any (A : Option Addr) (cap0 : Nat) (l : List ByteArray) (b : ByteArray) (at_ n : Nat) (w : World) (hr : RdS w A (strs l)) (hl : l.length ≤ 1000000000) (hb : b.size ≤ 140737488351232) (hat : at_ < b.size) (hn : at_ + n ≤ b.size) :
    Calls Try.prog 32 #[.slice A l.length cap0, .string b, .int .i64 at_, .int .i64 n] w fun e w' => e = .returned (.int .i64 (tokenN l b at_ n)) ∧ w = w' := by
  have HR := Lib.hid hr
  clear hr
  obtain ⟨X, HX⟩ : ∃ X, Hid (X = b.extract at_ (at_ + n)) := ⟨_, Lib.hid rfl⟩
  obtain ⟨F, HF⟩ : ∃ F, Hid (F = findI l X) := ⟨_, Lib.hid rfl⟩
  have hfb := findI_bd l X
  rw [← HF.out] at hfb
  obtain ⟨hf1, hf2⟩ := hfb
  have HT : Hid (tokenN l b at_ n = if 0 ≤ F then 256 + F.toNat else byteAt b at_) := by show _ = _; rw [HF.out, HX.out]; rfl
  go_enter Try.func32, Try.ntmps32
  go_wp2_with fail
  rw [← HX.out]
  refine (find_any A cap0 l X w HR.out hl).mono ?_
  rintro e w' ⟨rfl, rfl⟩
  rw [← HF.out]
  by_cases hF : 0 ≤ F
  · go_wp2_with fail
    go_ret
    refine ⟨?_, rfl⟩
    rw [HT.out, if_pos hF]
    have : ((256 + F.toNat : Nat) : Int) = 256 + F := by omega
    rw [this]
    rfl
  · go_wp2_with fail
    go_ret
    refine ⟨?_, rfl⟩
    rw [HT.out, if_neg (by omega), ← wrap_byte b at_ hat]
    rfl

end Go.Proofs.Ytbhjckhhmcfpfaa

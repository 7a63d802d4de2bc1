/- code.Put: writes a symbol's code. Conditions: the writer lies at a block of its own. -/
import Derived.Test.YtbhjckhhmcfpfaaInts
import Derived.StillTailTactics
namespace Go.Proofs.Ytbhjckhhmcfpfaa
open Go.RowKit
set_option linter.unusedVariables false
set_option linter.unusedSimpArgs false

/-- Is there such a symbol, with a length? -/
def symOk (l c : List Int) (s : Int) : Prop := 0 ≤ s ∧ s < l.length ∧ s < c.length ∧ 1 ≤ l.getD s.toNat 0 ∧ l.getD s.toNat 0 ≤ 15

set_option maxRecDepth 100000 in
set_option maxHeartbeats 1000000 in
theorem cput_no (p : Value) (A1 A2 : Option Addr) (cap1 cap2 : Nat) (l c : List Int) (s : Int) (w : World) (hr1 : RdS w A1 (ints .i64 l)) (hr2 : RdS w A2 (ints .i64 c)) (hl1 : l.length ≤ 1000000) (hl2 : c.length ≤ 1000000) (h : ¬ symOk l c s) :
    Calls Try.prog 19 #[p, .slice A1 l.length cap1, .slice A2 c.length cap2, .int .i64 s] w fun e w' => e = .returned (.bool false) ∧ Dr w w' := by
  have HR1 := Lib.hid hr1
  clear hr1 hr2
  have H := Lib.hid h
  clear h
  by_cases h0 : s < 0
  · go_enter Try.func19, Try.ntmps19
    go_wp2_with fail
    go_ret
    exact ⟨rfl, Dr.refl _⟩
  obtain ⟨k, rfl⟩ := Int.eq_ofNat_of_zero_le (Int.not_lt.1 h0)
  by_cases h1 : k < l.length ∧ k < c.length
  · obtain ⟨h1, h2⟩ := h1
    obtain ⟨x, b, o, hx, rfl, hc⟩ := HR1.out.at_ h1
    have hgd : l.getD k 0 = x := by rw [List.getD_eq_getElem?_getD, hx]; rfl
    have HGD := Lib.hid hgd
    clear hx hgd
    by_cases h3 : x < 1
    · clear HGD
      rcases Nat.lt_or_ge c.length l.length with hcl | hcl
      all_goals
        go_enter Try.func19, Try.ntmps19
        go_wp2_with fail
        go_ret
        exact ⟨rfl, Dr.refl _⟩
    · have h4 : 15 < x := by
        have := H.out
        unfold symOk at this
        simp only [Int.toNat_natCast, HGD.out] at this
        omega
      clear HGD
      rcases Nat.lt_or_ge c.length l.length with hcl | hcl
      all_goals
        go_enter Try.func19, Try.ntmps19
        go_wp2_with fail
        go_ret
        exact ⟨rfl, Dr.refl _⟩
  · rcases Nat.lt_or_ge c.length l.length with hcl | hcl
    · have h2 : c.length ≤ k := by omega
      clear h1
      go_enter Try.func19, Try.ntmps19
      go_wp2_with fail
      go_ret
      exact ⟨rfl, Dr.refl _⟩
    · have h2 : l.length ≤ k := by omega
      clear h1
      go_enter Try.func19, Try.ntmps19
      go_wp2_with fail
      go_ret
      exact ⟨rfl, Dr.refl _⟩

set_option maxRecDepth 100000 in
set_option maxHeartbeats 1000000 in
theorem cput_nil (A1 A2 : Option Addr) (cap1 cap2 : Nat) (l c : List Int) (s : Int) (w : World) (hr1 : RdS w A1 (ints .i64 l)) (hr2 : RdS w A2 (ints .i64 c)) (hl1 : l.length ≤ 1000000) (hl2 : c.length ≤ 1000000) (h : symOk l c s) :
    Calls Try.prog 19 #[.pointer none, .slice A1 l.length cap1, .slice A2 c.length cap2, .int .i64 s] w fun e w' => e = .returned (.bool false) ∧ Dr w w' := by
  have HR1 := Lib.hid hr1
  have HR2 := Lib.hid hr2
  clear hr1 hr2
  obtain ⟨h0, h1, h2, h3, h4⟩ := h
  obtain ⟨k, rfl⟩ := Int.eq_ofNat_of_zero_le h0
  have h0' : ¬ (k : Int) < 0 := by omega
  have h1' : k < l.length := by omega
  have h2' : k < c.length := by omega
  obtain ⟨x, b, o, hx, rfl, hc⟩ := HR1.out.at_ (show k < l.length by omega)
  obtain ⟨y, b2, o2, hy, rfl, hc2⟩ := HR2.out.at_ (show k < c.length by omega)
  have hgd : l.getD k 0 = x := by rw [List.getD_eq_getElem?_getD, hx]; rfl
  simp only [Int.toNat_natCast, hgd] at h3 h4
  have h3' : ¬ x < 1 := by omega
  have h4' : ¬ 15 < x := by omega
  clear hx hy hgd h1 h2
  rcases Nat.lt_or_ge c.length l.length with hcl | hcl
  all_goals
    go_enter Try.func19, Try.ntmps19
    go_wp2_with fail
    go_still_tail 9, (by kernel_rfl)
    change wpList _ _ _ _ _ w.drew
    go_wp2_with fail
    refine (wput_nil y x _).mono ?_
    rintro e w' ⟨rfl, m1, rfl⟩
    go_wp2_with fail
    go_ret
    exact ⟨rfl, ⟨_, rfl⟩⟩

set_option maxRecDepth 100000 in
set_option maxHeartbeats 1000000 in
theorem cput_yes (base g : Nat) (v0 : Value) (L : List Int) (A1 A2 : Option Addr) (cap1 cap2 : Nat) (l c : List Int) (s : Int) (w : World) (hwr : WR w base g v0 L) (hL : L.length ≤ 900000000) (hr1 : RdS w A1 (ints .i64 l)) (hr2 : RdS w A2 (ints .i64 c)) (hl1 : l.length ≤ 1000000) (hl2 : c.length ≤ 1000000) (h : symOk l c s)
    (hv : 0 ≤ c.getD s.toNat 0 ∧ c.getD s.toNat 0 < 2 ^ (l.getD s.toNat 0).toNat) :
    Calls Try.prog 19 #[.pointer (some ⟨g, 0, none⟩), .slice A1 l.length cap1, .slice A2 c.length cap2, .int .i64 s] w fun e w' => e = .returned (.bool true) ∧
      PutRel base g v0 L (c.getD s.toNat 0).toNat (l.getD s.toNat 0).toNat (l.getD s.toNat 0).toNat w w' := by
  have HR1 := Lib.hid hr1
  have HR2 := Lib.hid hr2
  have HWR := Lib.hid hwr
  clear hr1 hr2 hwr
  obtain ⟨h0, h1, h2, h3, h4⟩ := h
  obtain ⟨k, rfl⟩ := Int.eq_ofNat_of_zero_le h0
  have h0' : ¬ (k : Int) < 0 := by omega
  have h1' : k < l.length := by omega
  have h2' : k < c.length := by omega
  obtain ⟨x, b, o, hx, rfl, hc⟩ := HR1.out.at_ (show k < l.length by omega)
  obtain ⟨y, b2, o2, hy, rfl, hc2⟩ := HR2.out.at_ (show k < c.length by omega)
  have hgd : l.getD k 0 = x := by rw [List.getD_eq_getElem?_getD, hx]; rfl
  have hgd2 : c.getD k 0 = y := by rw [List.getD_eq_getElem?_getD, hy]; rfl
  simp only [Int.toNat_natCast, hgd, hgd2] at h3 h4 hv ⊢
  obtain ⟨hv1, hv2⟩ := hv
  obtain ⟨n, rfl⟩ := Int.eq_ofNat_of_zero_le (show 0 ≤ x by omega)
  obtain ⟨u, rfl⟩ := Int.eq_ofNat_of_zero_le hv1
  simp only [Int.toNat_natCast] at hv2 ⊢
  have hu : u < 2 ^ n := by
    have e : ((2 ^ n : Nat) : Int) = (2 : Int) ^ n := by simp
    rw [← e] at hv2; omega
  have HU := Lib.hid hu
  have h3' : ¬ (n : Int) < 1 := by omega
  have h4' : ¬ 15 < (n : Int) := by omega
  clear hx hy hgd hgd2 h1 h2 hv2 hu hv1
  rcases Nat.lt_or_ge c.length l.length with hcl | hcl
  all_goals
    go_enter Try.func19, Try.ntmps19
    go_wp2_with fail
    go_still_tail 9, (by kernel_rfl)
    change wpList _ _ _ _ _ w.drew
    go_wp2_with fail
    refine (wput_ok base g v0 L u n w.drew HWR.out (by omega) HU.out (by omega)).mono ?_
    rintro e w' ⟨rfl, v1, hw1, hk1, hf1⟩
    have HW1 := Lib.hid hw1
    have HK1 := Lib.hid hk1
    have HF1 := Lib.hid hf1
    clear hw1 hk1 hf1
    go_wp2_with fail
    go_ret
    exact ⟨rfl, v1, HW1.out, ((Kp.refl _ w).drew.trans HK1.out (fun _ h => .inl h)), HF1.out⟩

set_option maxRecDepth 100000 in
set_option maxHeartbeats 1000000 in
theorem cput_out (p : Addr) (A1 A2 : Option Addr) (cap1 cap2 : Nat) (l c : List Int) (s : Int) (w : World) (hr1 : RdS w A1 (ints .i64 l)) (hr2 : RdS w A2 (ints .i64 c)) (hl1 : l.length ≤ 1000000) (hl2 : c.length ≤ 1000000) (h : symOk l c s)
    (hv : ¬ (0 ≤ c.getD s.toNat 0 ∧ c.getD s.toNat 0 < 2 ^ (l.getD s.toNat 0).toNat)) :
    Calls Try.prog 19 #[.pointer (some p), .slice A1 l.length cap1, .slice A2 c.length cap2, .int .i64 s] w fun e w' => e = .returned (.bool false) ∧ Dr w w' := by
  have HR1 := Lib.hid hr1
  have HR2 := Lib.hid hr2
  clear hr1 hr2
  obtain ⟨h0, h1, h2, h3, h4⟩ := h
  obtain ⟨k, rfl⟩ := Int.eq_ofNat_of_zero_le h0
  have h0' : ¬ (k : Int) < 0 := by omega
  have h1' : k < l.length := by omega
  have h2' : k < c.length := by omega
  obtain ⟨x, b, o, hx, rfl, hc⟩ := HR1.out.at_ (show k < l.length by omega)
  obtain ⟨y, b2, o2, hy, rfl, hc2⟩ := HR2.out.at_ (show k < c.length by omega)
  have hgd : l.getD k 0 = x := by rw [List.getD_eq_getElem?_getD, hx]; rfl
  have hgd2 : c.getD k 0 = y := by rw [List.getD_eq_getElem?_getD, hy]; rfl
  simp only [Int.toNat_natCast, hgd, hgd2] at h3 h4 hv
  have hbad : x < 0 ∨ 32 < x ∨ y < 0 ∨ (0 ≤ x ∧ x ≤ 32 ∧ 2 ^ x.toNat ≤ y) := by omega
  have HBAD := Lib.hid hbad
  have h3' : ¬ x < 1 := by omega
  have h4' : ¬ 15 < x := by omega
  clear hx hy hgd hgd2 h1 h2 hv hbad
  rcases Nat.lt_or_ge c.length l.length with hcl | hcl
  all_goals
    go_enter Try.func19, Try.ntmps19
    go_wp2_with fail
    go_still_tail 9, (by kernel_rfl)
    change wpList _ _ _ _ _ w.drew
    go_wp2_with fail
    refine (wput_bad p y x _ HBAD.out).mono ?_
    rintro e w' ⟨rfl, m1, rfl⟩
    go_wp2_with fail
    go_ret
    exact ⟨rfl, ⟨_, rfl⟩⟩

end Go.Proofs.Ytbhjckhhmcfpfaa

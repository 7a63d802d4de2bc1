/- hits.Longest, greedy.Next, greedy.Parse: what each returns; nothing old is written. -/
import Derived.Test.YtbhjckhhmcfpfaaGiven
namespace Go.Proofs.Ytbhjckhhmcfpfaa
open Go.RowKit
set_option linter.unusedVariables false
set_option linter.unusedSimpArgs false

theorem longP_append (b : ByteArray) (at_ : Nat) (l1 l2 : List ByteArray) (k : Nat) (st : Int × Nat) : longP b at_ k (l1 ++ l2) st = longP b at_ (k + l1.length) l2 (longP b at_ k l1 st) := by
  induction l1 generalizing k st with
  | nil => rfl
  | cons s r ih =>
    simp only [List.cons_append, longP, List.length_cons]
    rw [ih]
    congr 1
    omega
theorem longP_snoc (b : ByteArray) (at_ : Nat) (l : List ByteArray) (k : Nat) (s : ByteArray) (hs : l[k]? = some s) (st : Int × Nat) :
    longP b at_ 0 (l.take (k + 1)) st = let r := longP b at_ 0 (l.take k) st; if r.2 < s.size ∧ pfx (b.extract at_ b.size) s = true then ((k : Int), s.size) else r := by
  have hl : (l.take k).length = k := by
    obtain ⟨h, _⟩ := List.getElem?_eq_some_iff.1 hs
    rw [List.length_take]
    omega
  rw [List.take_add_one, hs, Option.toList_some, longP_append, hl, Nat.zero_add]
  rfl
theorem longP_bd (b : ByteArray) (at_ : Nat) (l : List ByteArray) (h40 : ∀ s, s ∈ l → s.size ≤ 40) :
    -1 ≤ (longP b at_ 0 l (-1, 0)).1 ∧ (longP b at_ 0 l (-1, 0)).1 < l.length ∧ (longP b at_ 0 l (-1, 0)).2 ≤ 40 := by
  refine longP_in b at_ l 0 (-1, 0) (fun r => -1 ≤ r.1 ∧ r.1 < l.length ∧ r.2 ≤ 40) ⟨by decide, by simp only; omega, by decide⟩ (fun i s hi hp => ?_)
  obtain ⟨hil, _⟩ := List.getElem?_eq_some_iff.1 hi
  have := h40 s (List.mem_of_getElem? hi)
  simp only
  omega

set_option maxRecDepth 100000 in
set_option maxHeartbeats 2000000 in
theorem longest_any (g : Nat) (l : List ByteArray) (b : ByteArray) (at_ : Nat) (w : World) (h : DICT w g l) (hd : DictOk l) (hb : b.size ≤ 140737488351232) (hat : at_ < b.size) :
    Calls Try.prog 93 #[.pointer (some ⟨g, 0, none⟩), .string b, .int .i64 at_] w fun e w' =>
      e = .returned (.tuple #[.int .i64 (longP b at_ 0 l (-1, 0)).1, .int .i64 (longP b at_ 0 l (-1, 0)).2]) ∧ Kp (fun _ => False) w w' := by
  have HD := Lib.hid h
  have HO := Lib.hid hd
  have hfew := hd.few
  clear h hd
  obtain ⟨X, HX⟩ : ∃ X, Hid (X = b.extract at_ b.size) := ⟨_, Lib.hid rfl⟩
  have hxs : X.size ≤ 140737488351232 := by rw [HX.out, extract_size b _ _ (Nat.le_refl _)]; omega
  go_enter Try.func93, Try.ntmps93
  go_wp2_with fail
  refine (all_any g l w HD.out (by omega)).mono ?_
  rintro e w1 ⟨v, rfl, ho, hk⟩
  obtain ⟨A1, cap1, rfl⟩ := own_slice ho
  have HR := Lib.hid (RdS.own ho)
  have HK := Lib.hid hk
  clear ho hk
  go_wp2_with fail
  go_loopw [8, 9, 23] (fun x y i wr => ∃ k : Nat, k ≤ l.length ∧ i = .int .i64 k ∧ ∃ (p : Int) (q : Nat), x = .int .i64 p ∧ y = .int .i64 q ∧ Hid ((p, q) = longP b at_ 0 (l.take k) (-1, 0)) ∧ Dr w1 wr) (fun _ _ i _ => l.length - (intOf i).toNat)
  case atStart => exact ⟨0, Nat.zero_le _, rfl, -1, 0, rfl, rfl, by show _ = _; simp [longP], Dr.refl _⟩
  case round =>
    obtain ⟨k, hk, rfl, p, q, rfl, rfl, HY, m, rfl⟩ := hrel
    by_cases hlt : k < l.length
    · obtain ⟨s, bb, o, hz, rfl, hc⟩ := HR.out.atS hlt
      have hss := HO.out.short s (List.mem_of_getElem? hz)
      have HS := Lib.hid (longP_snoc b at_ l k s hz (-1, 0))
      rw [← HX.out] at HS
      have hS := HS.out
      simp only [← HY.out] at hS
      have HS2 := Lib.hid hS
      clear hz HS hS
      by_cases hq : q < s.size
      · obtain ⟨r, HRr⟩ : ∃ r, Hid (r = pfx X s) := ⟨_, Lib.hid rfl⟩
        go_wp2_with fail
        rw [← HX.out]
        refine (hasPrefix_any X s (w1.drewN m) hxs (by omega)).mono ?_
        rintro e w' ⟨rfl, m2, rfl⟩
        rw [← HRr.out]
        cases r with
        | true =>
          go_wp2_with fail
          refine ⟨⟨k + 1, by omega, by simp, k, s.size, rfl, rfl, ?_, ⟨_, rfl⟩⟩, by simp only [intOf]; omega⟩
          show _ = _
          rw [HS2.out, if_pos ⟨hq, HRr.out.symm⟩]
        | false =>
          go_wp2_with fail
          refine ⟨⟨k + 1, by omega, by simp, p, q, rfl, rfl, ?_, ⟨_, rfl⟩⟩, by simp only [intOf]; omega⟩
          show _ = _
          rw [HS2.out, if_neg (fun h => by rw [← HRr.out] at h; exact absurd h.2 (by decide))]
      · go_wp2_with fail
        refine ⟨⟨k + 1, by omega, by simp, p, q, rfl, rfl, ?_, ⟨_, rfl⟩⟩, by simp only [intOf]; omega⟩
        show _ = _
        rw [HS2.out, if_neg (fun h => hq h.1)]
    · go_wp2_with fail
      go_ret2
      obtain rfl : k = l.length := by omega
      have := HY.out
      rw [List.take_length] at this
      exact ⟨by rw [← this]; rfl, HK.out.drewN _⟩

set_option maxHeartbeats 1000000 in
theorem gnext_any (g : Nat) (l : List ByteArray) (b : ByteArray) (at_ : Nat) (w : World) (h : DICT w g l) (hd : DictOk l) (hb : b.size ≤ 140737488351232) (hat : at_ < b.size) :
    Calls Try.prog 70 #[.pointer (some ⟨g, 0, none⟩), .string b, .int .i64 at_] w fun e w' =>
      e = .returned (.tuple #[.int .i64 (gnext l b at_).1, .int .i64 (gnext l b at_).2]) ∧ Kp (fun _ => False) w w' := by
  have HD := Lib.hid h
  have HO := Lib.hid hd
  have hfew := hd.few
  clear h hd
  obtain ⟨r, HRr⟩ : ∃ r, Hid (r = longP b at_ 0 l (-1, 0)) := ⟨_, Lib.hid rfl⟩
  have hbd := longP_bd b at_ l HO.out.short
  rw [← HRr.out] at hbd
  obtain ⟨hb1, hb2, hb3⟩ := hbd
  have HG : Hid (gnext l b at_ = if r.1 < 0 then (byteAt b at_, 1) else (256 + r.1.toNat, r.2)) := by show _ = _; rw [HRr.out]; rfl
  obtain ⟨p, q⟩ := r
  simp only at hb1 hb2 hb3 HG
  by_cases hp : p < 0
  · go_enter Try.func70, Try.ntmps70
    go_wp2_with fail
    refine (longest_any g l b at_ w HD.out HO.out hb hat).mono ?_
    rintro e w' ⟨rfl, hk⟩
    rw [← HRr.out]
    have HK := Lib.hid hk
    clear hk
    go_wp2_with fail
    go_ret2
    refine ⟨?_, HK.out⟩
    rw [HG.out, if_pos hp, ← wrap_byte b at_ hat]
    rfl
  · go_enter Try.func70, Try.ntmps70
    go_wp2_with fail
    refine (longest_any g l b at_ w HD.out HO.out hb hat).mono ?_
    rintro e w' ⟨rfl, hk⟩
    rw [← HRr.out]
    have HK := Lib.hid hk
    clear hk
    go_wp2_with fail
    go_ret2
    refine ⟨?_, HK.out⟩
    rw [HG.out, if_neg (by omega)]
    have : ((256 + p.toNat : Nat) : Int) = 256 + p := by omega
    rw [this]
    rfl
set_option maxHeartbeats 400000 in
theorem gnext_end (v : Value) (b : ByteArray) (at_ : Nat) (w : World) (hb : b.size ≤ 140737488351232) (hat : b.size ≤ at_) (hat2 : at_ ≤ 140737488351232) :
    Calls Try.prog 70 #[v, .string b, .int .i64 at_] w fun e w' => e = .returned (.tuple #[.int .i64 0, .int .i64 0]) ∧ Kp (fun _ => False) w w' := by
  go_enter Try.func70, Try.ntmps70
  go_wp2_with fail
  go_ret2
  exact ⟨rfl, Kp.refl _ _⟩

/-- The path that greedy takes. -/
def gpath (l : List ByteArray) (b : ByteArray) : List (Nat × Nat) := walkP (gnext l b) b.size b.size 0
/-- Tokens as numbers. -/
def toks (xs : List (Nat × Nat)) : List Int := xs.map fun x => (x.1 : Int)
theorem toks_len (xs : List (Nat × Nat)) : (toks xs).length = xs.length := by simp [toks]
theorem gpath_ok {l : List ByteArray} (hd : DictOk l) (b : ByteArray) : Path l b 0 (gpath l b) := walkP_ok hd b (gnext l b) (fun at_ _ => gnext_step l b at_) b.size 0 (Nat.zero_le _) (Nat.le_refl _)

/-- A loop that appends the tokens of a path: what stands between two rounds. -/
def WalkRel (nxt : Nat → Nat × Nat) (size : Nat) (at_ : Nat) (acc : List (Nat × Nat)) (v : Value) (w wr : World) : Prop :=
  (∃ f, walkP nxt size size 0 = acc ++ walkP nxt size f at_ ∧ size - at_ ≤ f) ∧ wr.ownsRow w.heap.size 3 1 v acc.length (ints .i64 (toks acc)) ∧ Kp (fun _ => False) w wr
theorem walk_next {nxt : Nat → Nat × Nat} {size at_ : Nat} {acc : List (Nat × Nat)} (h : ∃ f, walkP nxt size size 0 = acc ++ walkP nxt size f at_ ∧ size - at_ ≤ f) (hlt : at_ < size) (hn : 1 ≤ (nxt at_).2) :
    ∃ f, walkP nxt size size 0 = (acc ++ [nxt at_]) ++ walkP nxt size f (at_ + (nxt at_).2) ∧ size - (at_ + (nxt at_).2) ≤ f := by
  obtain ⟨f, h1, h2⟩ := h
  obtain ⟨f, rfl⟩ : ∃ f', f = f' + 1 := ⟨f - 1, by omega⟩
  rw [walkP_step nxt size f at_ hlt] at h1
  exact ⟨f, by rw [h1]; simp, by omega⟩
theorem walk_done {nxt : Nat → Nat × Nat} {size at_ : Nat} {acc : List (Nat × Nat)} (h : ∃ f, walkP nxt size size 0 = acc ++ walkP nxt size f at_ ∧ size - at_ ≤ f) (hlt : ¬ at_ < size) : walkP nxt size size 0 = acc := by
  obtain ⟨f, h1, h2⟩ := h
  rw [walkP_end nxt size f at_ hlt, List.append_nil] at h1
  exact h1

set_option maxRecDepth 100000 in
set_option maxHeartbeats 2000000 in
theorem gparse_any (g : Nat) (l : List ByteArray) (b : ByteArray) (w : World) (h : DICT w g l) (hd : DictOk l) (hb : b.size ≤ 1024) :
    Calls Try.prog 34 #[.pointer (some ⟨g, 0, none⟩), .string b] w fun e w' =>
      ∃ v, e = .returned v ∧ w'.ownsRow w.heap.size 3 1 v (gpath l b).length (ints .i64 (toks (gpath l b))) ∧ Kp (fun _ => False) w w' := by
  have HD := Lib.hid h
  have HO := Lib.hid hd
  have hfew := hd.few
  clear h hd
  go_enter Try.func34, Try.ntmps34
  go_wp2_with fail
  go_loopw [5, 6] (fun v i wr => ∃ (at_ : Nat) (acc : List (Nat × Nat)), at_ ≤ b.size ∧ i = .int .i64 at_ ∧ acc.length ≤ at_ ∧ ∃ v2, v2 = v ∧ Hid (WalkRel (gnext l b) b.size at_ acc v2 w wr)) (fun _ i _ => b.size - (intOf i).toNat)
  case atStart => exact ⟨0, [], Nat.zero_le _, rfl, Nat.zero_le _, _, rfl, ⟨b.size, rfl, by omega⟩, World.ownsRow_nil _ _ _ _, Kp.refl _ _⟩
  case round =>
    obtain ⟨at_, acc, hat, rfl, hacc, v2, rfl, HW⟩ := hrel
    obtain ⟨A1, cap1, rfl⟩ := own_slice HW.out.2.1
    by_cases hlt : at_ < b.size
    · obtain ⟨x, HX⟩ : ∃ x, Hid (x = gnext l b at_) := ⟨_, Lib.hid rfl⟩
      obtain ⟨_, hx1, hx2, hx3, hx4⟩ := step_mng HO.out b at_ hlt _ (gnext_step l b at_)
      rw [← HX.out] at hx1 hx2 hx3 hx4
      go_wp2_with fail
      refine (gnext_any g l b at_ wr (HD.out.kp HW.out.2.2) HO.out (by omega) hlt).mono ?_
      rintro e w1 ⟨rfl, hk⟩
      rw [← HX.out]
      have HK := Lib.hid hk
      have HO1 := Lib.hid (hk.own HW.out.2.1 (fun _ _ h => h))
      have HK1 := Lib.hid (HW.out.2.2.trans hk (fun _ h => .inl h))
      clear hk
      go_wp2_with (at_builtin; refine app1 w.heap.size rfl _ _ 30 3 (.int .i64 0) 8 rfl Try.underlying30 info_int2 rfl (by decide) (.slice A1 acc.length cap1) _ _ (.int .i64 (x.1 : Int)) rfl rfl rfl HO1.out HK1.out.size (by omega) ?_; intro v3 w3 hown hgrow hfresh; have HG := Lib.hid hgrow; have HO3 := Lib.hid hown; clear hgrow hown hfresh)
      refine ⟨⟨at_ + x.2, acc ++ [x], by omega, by simp, by simp; omega, _, rfl, ?_, ?_, HK1.out.grown HG.out (fun i hi => .inr (own_lt HO1.out hi).1)⟩, by simp only [intOf]; omega⟩
      · have := walk_next HW.out.1 hlt (by rw [← HX.out]; exact hx1)
        rw [← HX.out] at this
        exact this
      · simpa [ints, toks] using HO3.out
    · go_wp2_with fail
      go_ret
      have h1 := walk_done HW.out.1 hlt
      have h2 : gpath l b = acc := h1
      rw [h2]
      exact ⟨_, rfl, HW.out.2.1, HW.out.2.2⟩

end Go.Proofs.Ytbhjckhhmcfpfaa

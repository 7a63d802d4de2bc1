/- What the statements make dictionaries by: Few, Phrases, Make, Dict. What each returns; nothing old is written. -/
import Derived.Test.YtbhjckhhmcfpfaaDict
namespace Go.Proofs.Ytbhjckhhmcfpfaa
open Go.RowKit
set_option linter.unusedVariables false
set_option linter.unusedSimpArgs false

theorem bytesN_bd (l : List ByteArray) (n : Nat) (h : ∀ s, s ∈ l → s.size ≤ n) : bytesN l ≤ n * l.length := by
  induction l with
  | nil => simp [bytesN]
  | cons s l ih =>
    have h1 := h s List.mem_cons_self
    have h2 := ih fun t ht => h t (List.mem_cons_of_mem _ ht)
    have : bytesN (s :: l) = s.size + bytesN l := by simp [bytesN]
    rw [this, List.length_cons, Nat.mul_add, Nat.mul_one]
    omega

def fewB (l : List ByteArray) : Bool := decide (l.length ≤ 110) && decide (bytesN l ≤ 1300)
set_option maxRecDepth 100000 in
set_option maxHeartbeats 1000000 in
theorem few_any (A : Option Addr) (cap0 : Nat) (l : List ByteArray) (w : World) (hr : RdS w A (strs l)) (hl : l.length ≤ 140737488355328) (hs : ∀ s, s ∈ l → s.size ≤ 140737488351232) :
    Calls Try.prog 39 #[.slice A l.length cap0] w fun e w' => e = .returned (.bool (fewB l)) ∧ w = w' := by
  have HR := Lib.hid hr
  have HS := Lib.hid hs
  clear hr hs
  by_cases h1 : l.length ≤ 110
  · go_enter Try.func39, Try.ntmps39
    go_wp2_with fail
    go_loop [3, 8] (fun y i => ∃ k : Nat, k ≤ l.length ∧ i = .int .i64 k ∧ ∃ n : Nat, y = .int .i64 n ∧ Hid (n = bytesN (l.take k)) ∧ n ≤ 140737488351232 * k) (fun _ i => l.length - (intOf i).toNat)
    case atStart => exact ⟨0, Nat.zero_le _, rfl, 0, rfl, by show _ = _; simp [bytesN], by omega⟩
    case round =>
      obtain ⟨k, hk, rfl, n, rfl, HY, hn⟩ := hrel
      by_cases hlt : k < l.length
      · obtain ⟨s, b, o, hz, rfl, hc⟩ := HR.out.atS hlt
        have hss := HS.out s (List.mem_of_getElem? hz)
        have HT : l.take (k + 1) = l.take k ++ [s] := by rw [List.take_add_one, hz]; rfl
        have HT := Lib.hid HT
        clear hz
        go_wp2_with fail
        refine ⟨⟨k + 1, by omega, by simp, n + s.size, by simp, by show _ = _; rw [HT.out, bytesN_snoc, HY.out], by omega⟩, by simp only [intOf]; omega⟩
      · obtain rfl : k = l.length := by omega
        have HF : Hid (fewB l = decide ((n : Int) ≤ 1300)) := by
          show _ = _
          unfold fewB
          rw [HY.out, List.take_length]
          rw [Bool.eq_iff_iff]
          simp
          omega
        go_wp2_with fail
        go_ret
        exact ⟨by rw [HF.out]; rfl, rfl⟩
  · have HF : Hid (fewB l = false) := by
      show _ = _
      unfold fewB
      simp [h1]
    go_enter Try.func39, Try.ntmps39
    go_wp2_with fail
    go_loop [3, 8] (fun y i => ∃ k : Nat, k ≤ l.length ∧ i = .int .i64 k ∧ ∃ n : Int, y = .int .i64 n) (fun _ i => l.length - (intOf i).toNat)
    case atStart => exact ⟨0, Nat.zero_le _, rfl, 0, rfl⟩
    case round =>
      obtain ⟨k, hk, rfl, n, rfl⟩ := hrel
      by_cases hlt : k < l.length
      · obtain ⟨s, b, o, hz, rfl, hc⟩ := HR.out.atS hlt
        have hss := HS.out s (List.mem_of_getElem? hz)
        clear hz
        go_wp2_with fail
        refine ⟨⟨k + 1, by omega, by simp, _, rfl⟩, by simp only [intOf]; omega⟩
      · go_wp2_with fail
        go_ret
        exact ⟨by rw [HF.out]; rfl, rfl⟩

/-- May phrases be? -/
structure PhOk (l : List ByteArray) : Prop where
  ok : DictOk l
  bytes : bytesN l ≤ 1000
/-- What a beginning must keep. -/
structure PhTo (l : List ByteArray) (k : Nat) : Prop where
  nodup : (l.take k).Nodup
  pos : ∀ s, s ∈ l.take k → 1 ≤ s.size
  short : ∀ s, s ∈ l.take k → s.size ≤ 40
  bytes : bytesN (l.take k) ≤ 1000

/-- The code, and the place. -/
def PhAns (l : List ByteArray) (e : Ending) : Prop := ∃ c p : Int, e = .returned (.tuple #[.int .i64 c, .int .i64 p]) ∧ (c = 0 ↔ PhOk l)

theorem PhAns.bad {l : List ByteArray} {c p : Int} (hc : c ≠ 0) (h : ¬ PhOk l) : PhAns l (.returned (.tuple #[.int .i64 c, .int .i64 p])) := ⟨c, p, rfl, fun h2 => absurd h2 hc, fun h2 => absurd h2 h⟩

theorem findI_lt {l : List ByteArray} {s : ByteArray} {k : Nat} (hz : l[k]? = some s) : (findI l s < (k : Int) ↔ s ∈ l.take k) ∧ 0 ≤ findI l s := by
  have hm := List.mem_of_getElem? hz
  have hlt : findN l s < l.length := List.findIdx_lt_length_of_exists ⟨s, hm, by simp⟩
  have hge := List.findIdx_getElem (w := hlt)
  have he : l[findN l s] = s := of_decide_eq_true hge
  have hf : findI l s = (findN l s : Int) := by unfold findI; rw [if_pos hlt]
  rw [hf]
  obtain ⟨hkl, hks⟩ := List.getElem?_eq_some_iff.1 hz
  refine ⟨⟨fun h => ?_, fun h => ?_⟩, by omega⟩
  · exact List.mem_take_iff_getElem.2 ⟨findN l s, by omega, he⟩
  · obtain ⟨j, hj, hs⟩ := List.mem_take_iff_getElem.1 h
    have : findN l s ≤ j := by
      rcases Nat.lt_or_ge j (findN l s) with h2 | h2
      · exfalso
        have := List.not_of_lt_findIdx (p := fun x => decide (x = s)) (xs := l) h2
        simp at this
        exact this hs
      · exact h2
    omega

set_option maxRecDepth 100000 in
set_option maxHeartbeats 2000000 in
theorem phrases_any (A : Option Addr) (cap0 : Nat) (l : List ByteArray) (w : World) (hr : RdS w A (strs l)) (hl : l.length ≤ 140737488355328) (hs : ∀ s, s ∈ l → s.size ≤ 140737488351232) :
    Calls Try.prog 40 #[.slice A l.length cap0] w fun e w' => PhAns l e ∧ w = w' := by
  have HR := Lib.hid hr
  have HS := Lib.hid hs
  clear hr hs
  by_cases h1 : 100 < l.length
  · have HF : Hid (¬ PhOk l) := by
      show ¬ _
      intro h
      have := h.ok.few
      omega
    go_enter Try.func40, Try.ntmps40
    go_wp2_with fail
    go_ret2
    exact ⟨PhAns.bad (by decide) HF.out, rfl⟩
  · go_enter Try.func40, Try.ntmps40
    go_wp2_with fail
    go_loop [4, 5] (fun y i => ∃ k : Nat, k ≤ l.length ∧ i = .int .i64 k ∧ ∃ n : Nat, y = .int .i64 n ∧ Hid (n = bytesN (l.take k)) ∧ n ≤ 1000 ∧ Hid (PhTo l k)) (fun _ i => l.length - (intOf i).toNat)
    case atStart => exact ⟨0, Nat.zero_le _, rfl, 0, rfl, by show _ = _; simp [bytesN], by omega, ⟨by simp, by simp, by simp, by simp [bytesN]⟩⟩
    case round =>
      obtain ⟨k, hk, rfl, n, rfl, HY, hn, HP⟩ := hrel
      by_cases hlt : k < l.length
      · obtain ⟨s, b, o, hz, rfl, hc⟩ := HR.out.atS hlt
        have hm := List.mem_of_getElem? hz
        have hss := HS.out s hm
        have HM := Lib.hid hm
        have HT : l.take (k + 1) = l.take k ++ [s] := by rw [List.take_add_one, hz]; rfl
        have HT := Lib.hid HT
        obtain ⟨hf1, hf2⟩ := findI_lt hz
        obtain ⟨F, HF⟩ : ∃ F, Hid (F = findI l s) := ⟨_, Lib.hid rfl⟩
        rw [← HF.out] at hf1 hf2
        have HF1 := Lib.hid hf1
        have HZ := Lib.hid hz
        have hbs : bytesN (l.take (k + 1)) ≤ bytesN l := bytesN_take l (k + 1)
        rw [HT.out, bytesN_snoc, ← HY.out] at hbs
        have HBS := Lib.hid hbs
        clear hz hm hf1 hbs
        by_cases h0 : s.size = 0
        · have hs0 : s = ⟨#[]⟩ := ByteArray.ext (Array.eq_empty_of_size_eq_zero h0)
          subst hs0
          have HB : Hid (¬ PhOk l) := by
            show ¬ _
            intro h
            have := h.ok.pos _ HM.out
            omega
          go_wp2_with fail
          go_ret2
          exact ⟨PhAns.bad (by decide) HB.out, rfl⟩
        · have hse : (s.toList == []) = false := by
            rw [beq_eq_false_iff_ne, ByteArray.toList_eq]
            intro e
            have : s.data.toList.length = s.size := Array.length_toList
            rw [e] at this
            simp at this
            omega
          by_cases h40 : 40 < s.size
          · have HB : Hid (¬ PhOk l) := by
              show ¬ _
              intro h
              have := h.ok.short _ HM.out
              omega
            go_wp2_with fail
            go_ret2
            exact ⟨PhAns.bad (by decide) HB.out, rfl⟩
          · by_cases hbb : 1000 < n + s.size
            · have HB : Hid (¬ PhOk l) := by
                show ¬ _
                intro h
                have := h.bytes
                have := HBS.out
                omega
              go_wp2_with fail
              go_ret2
              exact ⟨PhAns.bad (by decide) HB.out, rfl⟩
            · go_wp2_with fail
              refine (find_any _ cap0 l s w HR.out (by omega)).mono ?_
              rintro e w' ⟨rfl, rfl⟩
              rw [← HF.out]
              by_cases hfk : F < k
              · have HB : Hid (¬ PhOk l) := by
                  show ¬ _
                  intro h
                  have h2 := HF1.out.1 hfk
                  obtain ⟨j, hj, hsj⟩ := List.mem_take_iff_getElem.1 h2
                  obtain ⟨hil, his⟩ := List.getElem?_eq_some_iff.1 HZ.out
                  have := (List.getElem_inj (h₀ := show j < l.length by omega) (h₁ := hil) h.ok.nodup).1 (hsj.trans his.symm)
                  omega
                go_wp2_with fail
                go_ret2
                exact ⟨PhAns.bad (by decide) HB.out, rfl⟩
              · have HB : Hid (s ∉ l.take k) := fun h2 => hfk (HF1.out.2 h2)
                go_wp2_with fail
                refine ⟨⟨k + 1, by omega, by simp, n + s.size, by simp, by show _ = _; rw [HT.out, bytesN_snoc, HY.out], by omega, ?_⟩, by simp only [intOf]; omega⟩
                show PhTo l (k + 1)
                have hp := HP.out
                refine ⟨?_, ?_, ?_, ?_⟩
                · rw [HT.out, List.nodup_append]
                  exact ⟨hp.nodup, by simp, fun a ha b hb => by simp at hb; subst hb; rintro rfl; exact HB.out ha⟩
                · rw [HT.out]
                  intro t ht
                  rcases List.mem_append.1 ht with ht | ht
                  · exact hp.pos t ht
                  · simp at ht; subst ht; omega
                · rw [HT.out]
                  intro t ht
                  rcases List.mem_append.1 ht with ht | ht
                  · exact hp.short t ht
                  · simp at ht; subst ht; omega
                · rw [HT.out, bytesN_snoc, ← HY.out]
                  omega
      · go_wp2_with fail
        go_ret2
        obtain rfl : k = l.length := by omega
        obtain ⟨p1, p2, p3, p4⟩ := HP.out
        rw [List.take_length] at p1 p2 p3 p4
        exact ⟨⟨0, 0, rfl, fun _ => ⟨⟨p1, p2, p3, by omega⟩, p4⟩, fun _ => rfl⟩, rfl⟩

set_option maxHeartbeats 400000 in
theorem make_ok (A : Option Addr) (cap0 : Nat) (l : List ByteArray) (w : World) (hr : RdS w A (strs l)) (hp : PhOk l) :
    Calls Try.prog 41 #[.slice A l.length cap0] w fun e w' => ∃ g, e = .returned (.pointer (some ⟨g, 0, none⟩)) ∧ w.heap.size ≤ g ∧ DICT w' g l ∧ Kp (fun _ => False) w w' := by
  have HR := Lib.hid hr
  have HP := Lib.hid hp
  clear hr hp
  go_enter Try.func41, Try.ntmps41
  go_wp2_with fail
  refine (dictNew_ok A cap0 l w HR.out HP.out.ok HP.out.bytes).mono ?_
  rintro e w' ⟨g, rfl, hg, hd, hk⟩
  have HG := Lib.hid hg
  have HD := Lib.hid hd
  have HK := Lib.hid hk
  clear hg hd hk
  go_wp2_with fail
  go_ret
  exact ⟨g, rfl, HG.out, HD.out, HK.out⟩

/-- What the statements' Dict answers: a dictionary that may be, or nothing. -/
def givenB (l : List ByteArray) (b : ByteArray) : Prop := fewB l = true ∧ b.size ≤ 400 ∧ PhOk l
set_option maxRecDepth 100000 in
set_option maxHeartbeats 1000000 in
theorem dict_no (A : Option Addr) (cap0 : Nat) (l : List ByteArray) (b : ByteArray) (w : World) (hr : RdS w A (strs l)) (hl : l.length ≤ 140737488355328) (hs : ∀ s, s ∈ l → s.size ≤ 140737488351232) (hb : b.size ≤ 140737488351232) (h : ¬ givenB l b) :
    Calls Try.prog 20 #[.slice A l.length cap0, .string b] w fun e w' => e = .returned (.tuple #[.pointer none, .bool false]) ∧ Kp (fun _ => False) w w' := by
  have HR := Lib.hid hr
  have HS := Lib.hid hs
  have HN := Lib.hid h
  clear hr hs h
  obtain ⟨f, HF⟩ : ∃ f, Hid (f = fewB l) := ⟨_, Lib.hid rfl⟩
  cases f with
  | false =>
    go_enter Try.func20, Try.ntmps20
    go_wp2_with fail
    refine (few_any A cap0 l w HR.out hl HS.out).mono ?_
    rintro e w' ⟨rfl, rfl⟩
    rw [← HF.out]
    go_wp2_with fail
    go_ret2
    exact ⟨rfl, Kp.refl _ _⟩
  | true =>
    by_cases h4 : 400 < b.size
    · go_enter Try.func20, Try.ntmps20
      go_wp2_with fail
      refine (few_any A cap0 l w HR.out hl HS.out).mono ?_
      rintro e w' ⟨rfl, rfl⟩
      rw [← HF.out]
      go_wp2_with fail
      go_ret2
      exact ⟨rfl, Kp.refl _ _⟩
    · go_enter Try.func20, Try.ntmps20
      go_wp2_with fail
      refine (few_any A cap0 l w HR.out hl HS.out).mono ?_
      rintro e w' ⟨rfl, rfl⟩
      rw [← HF.out]
      go_wp2_with fail
      refine (phrases_any A cap0 l w HR.out hl HS.out).mono ?_
      rintro e w' ⟨⟨c, p, rfl, hc⟩, rfl⟩
      have hc0 : (c != 0) = true := by
        rw [bne_iff_ne]
        intro h0
        exact HN.out ⟨HF.out.symm, by omega, hc.1 h0⟩
      clear hc
      go_wp2_with fail
      go_ret2
      exact ⟨rfl, Kp.refl _ _⟩
set_option maxRecDepth 100000 in
set_option maxHeartbeats 1000000 in
theorem dict_yes (A : Option Addr) (cap0 : Nat) (l : List ByteArray) (b : ByteArray) (w : World) (hr : RdS w A (strs l)) (hl : l.length ≤ 140737488355328) (hs : ∀ s, s ∈ l → s.size ≤ 140737488351232) (hb : b.size ≤ 140737488351232) (h : givenB l b) :
    Calls Try.prog 20 #[.slice A l.length cap0, .string b] w fun e w' => ∃ g, e = .returned (.tuple #[.pointer (some ⟨g, 0, none⟩), .bool true]) ∧ w.heap.size ≤ g ∧ DICT w' g l ∧ Kp (fun _ => False) w w' := by
  have HR := Lib.hid hr
  have HS := Lib.hid hs
  obtain ⟨h1, h2, h3⟩ := h
  have HF := Lib.hid h1
  have HP := Lib.hid h3
  have h4 : ¬ 400 < b.size := by omega
  clear hr hs h1 h3
  go_enter Try.func20, Try.ntmps20
  go_wp2_with fail
  refine (few_any A cap0 l w HR.out hl HS.out).mono ?_
  rintro e w' ⟨rfl, rfl⟩
  rw [HF.out]
  go_wp2_with fail
  refine (phrases_any A cap0 l w HR.out hl HS.out).mono ?_
  rintro e w' ⟨⟨c, p, rfl, hc⟩, rfl⟩
  obtain rfl : c = 0 := hc.2 HP.out
  clear hc
  go_wp2_with fail
  refine (make_ok A cap0 l w HR.out HP.out).mono ?_
  rintro e w' ⟨g, rfl, hg, hd, hk⟩
  have HG := Lib.hid hg
  have HD := Lib.hid hd
  have HK := Lib.hid hk
  clear hg hd hk
  go_wp2_with fail
  go_ret2
  exact ⟨g, rfl, HG.out, HD.out, HK.out⟩

end Go.Proofs.Ytbhjckhhmcfpfaa

/- The reference's Means, Mean, and Says: what tokens mean. Nothing old is written. -/
import Derived.Test.YtbhjckhhmcfpfaaBest
namespace Go.Proofs.Ytbhjckhhmcfpfaa
open Go.RowKit
set_option linter.unusedVariables false
set_option linter.unusedSimpArgs false

set_option maxRecDepth 100000 in
set_option maxHeartbeats 1000000 in
theorem meansT_any (A : Option Addr) (cap0 : Nat) (l : List ByteArray) (t : Nat) (w : World) (hr : RdS w A (strs l)) (hl : l.length ≤ 1000000) (ht : t < 256 + l.length) :
    Calls Try.prog 91 #[.slice A l.length cap0, .int .i64 t] w fun e w' => e = .returned (.tuple #[.string (mng l t), .bool true]) ∧ Kp (fun _ => False) w w' := by
  have HR := Lib.hid hr
  clear hr
  by_cases h2 : t < 256
  · have HM : Hid (mng l t = strOfNums [(t : Int)]) := by
      refine Lib.hid ?_
      unfold mng
      rw [if_pos h2]
      simp [strOfNums]
    have hw8 : IntKind.u8.wrap (t : Int) = t := by simp only [IntKind.wrap, IntKind.bits, IntKind.signed]; simp; omega
    have hcv := own_string (P := Try.prog) (w := w.alloc (.cells #[.int .u8 (t : Int)] 5)) (base := w.heap.size) (n := 1) (v := .slice (some ⟨w.heap.size, 0, none⟩) 1 1) (e' := 5) (xs := [(t : Int)]) (src := 25) (dst := 9) Try.underlying25 Try.underlying5 Try.underlying9
      ⟨rfl, .inr ⟨w.heap.size, 1, #[.int .u8 (t : Int)], rfl, Nat.le_refl _, blk_new w _, Nat.le_refl _, by decide, rfl, rfl⟩⟩
    go_enter Try.func91, Try.ntmps91
    go_wp2_with fail
    go_ret2
    exact ⟨by rw [HM.out]; rfl, (Kp.refl _ w).alloc _⟩
  · obtain ⟨k, rfl⟩ : ∃ k, t = 256 + k := ⟨t - 256, by omega⟩
    obtain ⟨x, b, o, hx, rfl, hc⟩ := HR.out.atS (show k < l.length by omega)
    have HM : Hid (mng l (256 + k) = x) := by
      refine Lib.hid ?_
      unfold mng
      rw [if_neg h2, List.getD_eq_getElem?_getD, show 256 + k - 256 = k by omega, hx]
      rfl
    have hcast : ((256 + k : Nat) : Int) = 256 + (k : Int) := by omega
    have hk : (256 + (k : Int) - 256) = k := by omega
    rw [hcast]
    clear hx hcast
    go_enter Try.func91, Try.ntmps91
    go_wp2_with fail
    go_ret2
    exact ⟨by rw [HM.out]; rfl, Kp.refl _ _⟩

def catB (l : List ByteArray) (ts : List Nat) : ByteArray := ⟨(cat l ts).toArray⟩
theorem catB_size (l : List ByteArray) (ts : List Nat) : (catB l ts).size = (cat l ts).length := by simp [catB, ByteArray.size]
theorem cat_snoc (l : List ByteArray) (ts : List Nat) (t : Nat) : cat l (ts ++ [t]) = cat l ts ++ (mng l t).data.toList := by simp [cat]
theorem cat_take (l : List ByteArray) (ts : List Nat) (k : Nat) : (cat l (ts.take k)).length ≤ (cat l ts).length := by
  have h : cat l ts = cat l (ts.take k) ++ cat l (ts.drop k) := by
    unfold cat
    rw [← List.flatten_append, ← List.map_append, List.take_append_drop]
  rw [h, List.length_append]
  omega
def nats (ts : List Nat) : List Int := ts.map fun (t : Nat) => (t : Int)
theorem nats_len (ts : List Nat) : (nats ts).length = ts.length := by simp [nats]
theorem nats_toks (xs : List (Nat × Nat)) : nats (xs.map (·.1)) = toks xs := by simp [nats, toks]

set_option maxRecDepth 100000 in
set_option maxHeartbeats 1000000 in
theorem mean_ok (A B : Option Addr) (cap0 cap1 : Nat) (l : List ByteArray) (most : Nat) (ts : List Nat) (w : World) (hr : RdS w A (strs l)) (hr2 : RdS w B (ints .i64 (nats ts))) (hl : l.length ≤ 1000000) (ht : ∀ t, t ∈ ts → t < 256 + l.length)
    (hm : (cat l ts).length ≤ most) (hm2 : most ≤ 1000000) (hts : ts.length ≤ 1000000) :
    Calls Try.prog 67 #[.slice A l.length cap0, .int .i64 most, .slice B ts.length cap1] w fun e w' => e = .returned (.tuple #[.string (catB l ts), .int .i64 0]) ∧ Kp (fun _ => False) w w' := by
  have HR := Lib.hid hr
  have HR2 := Lib.hid hr2
  have HT := Lib.hid ht
  clear hr hr2 ht
  go_enter Try.func67, Try.ntmps67
  go_wp2_with fail
  go_loopw [8, 9] (fun s i wr => ∃ k : Nat, k ≤ ts.length ∧ i = .int .i64 k ∧ ∃ c : ByteArray, s = .string c ∧ Hid (c = catB l (ts.take k)) ∧ c.size ≤ most ∧ Hid (Kp (fun _ => False) w wr)) (fun _ i _ => ts.length - (intOf i).toNat)
  case atStart => exact ⟨0, Nat.zero_le _, rfl, ⟨#[]⟩, rfl, by show _ = _; rfl, Nat.zero_le _, Kp.refl _ _⟩
  case round =>
    obtain ⟨k, hk, rfl, c, rfl, HC, hcs, HK⟩ := hrel
    by_cases hlt : k < ts.length
    · obtain ⟨x, b, o, hx, rfl, hc⟩ := HR2.out.at_ (show k < (nats ts).length by rw [nats_len]; exact hlt)
      have hc := HK.out.cell hc (fun h => h)
      obtain ⟨t, htk, rfl⟩ : ∃ t, ts[k]? = some t ∧ (t : Int) = x := by
        unfold nats at hx
        rw [List.getElem?_map] at hx
        obtain ⟨t, h1, h2⟩ := Option.map_eq_some_iff.1 hx
        exact ⟨t, h1, h2⟩
      have htm := HT.out t (List.mem_of_getElem? htk)
      obtain ⟨m, HM⟩ : ∃ m, Hid (m = mng l t) := ⟨_, Lib.hid rfl⟩
      have HTK : Hid (catB l (ts.take (k + 1)) = c ++ m) := by
        refine Lib.hid ?_
        rw [List.take_add_one, htk, Option.toList_some]
        unfold catB
        rw [cat_snoc, HC.out, HM.out]
        apply ByteArray.ext
        apply Array.toList_inj.1
        simp [catB]
      have hsz : c.size + m.size ≤ most := by
        have h1 := congrArg ByteArray.size HTK.out
        rw [catB_size] at h1
        have h2 := cat_take l ts (k + 1)
        have h3 : (c ++ m).size = c.size + m.size := ByteArray.size_append
        omega
      clear hx htk
      go_wp2_with fail
      refine (meansT_any A cap0 l t wr (HR.out.kp HK.out (fun _ _ _ h => h)) hl htm).mono ?_
      rintro e w1 ⟨rfl, hk1⟩
      rw [← HM.out]
      have HK1 := Lib.hid (HK.out.trans hk1 (fun _ h => .inl h))
      clear hk1
      have hmm : ¬ max (most : Int) 0 < (c.size : Int) + m.size := by omega
      go_wp2_with fail
      refine ⟨⟨k + 1, by omega, by simp, c ++ m, rfl, HTK.out.symm, by rw [ByteArray.size_append]; exact hsz, HK1.out⟩, by simp only [intOf]; omega⟩
    · go_wp2_with fail
      go_ret2
      obtain rfl : k = ts.length := by omega
      have := HC.out
      rw [List.take_length] at this
      exact ⟨by rw [← this]; rfl, HK.out⟩

set_option maxHeartbeats 1000000 in
/-- Tokens that mean these bytes are said to. -/
theorem says_yes (A B : Option Addr) (cap0 cap1 : Nat) (l : List ByteArray) (b : ByteArray) (ts : List Nat) (w : World) (hr : RdS w A (strs l)) (hr2 : RdS w B (ints .i64 (nats ts))) (hl : l.length ≤ 1000000) (ht : ∀ t, t ∈ ts → t < 256 + l.length)
    (hm : cat l ts = b.data.toList) (hm2 : b.size ≤ 1000000) (hts : ts.length ≤ 1000000) :
    Calls Try.prog 30 #[.slice A l.length cap0, .slice B ts.length cap1, .string b] w fun e w' => e = .returned (.bool true) ∧ Kp (fun _ => False) w w' := by
  have hb : catB l ts = b := by
    unfold catB
    rw [hm]
  have hlen : (cat l ts).length = b.size := by rw [hm]; exact Array.length_toList
  have hmo := mean_ok A B cap0 cap1 l b.size ts w hr hr2 hl ht (by omega) hm2 hts
  rw [hb] at hmo
  have HM := Lib.hid hmo
  have hbb : (b.toList == b.toList) = true := by simp
  clear hr hr2 ht hm hb hmo hlen
  go_enter Try.func30, Try.ntmps30
  go_wp2_with fail
  refine HM.out.mono ?_
  rintro e w1 ⟨rfl, hk⟩
  have HK := Lib.hid hk
  clear hk
  go_wp2_with fail
  go_ret
  exact ⟨rfl, HK.out⟩

end Go.Proofs.Ytbhjckhhmcfpfaa

/- best.Costs, best.Parse: what each returns; nothing old is written. -/
import Derived.Test.YtbhjckhhmcfpfaaLeast
import Derived.Test.YtbhjckhhmcfpfaaGreedy
namespace Go.Proofs.Ytbhjckhhmcfpfaa
open Go.RowKit
set_option linter.unusedVariables false
set_option linter.unusedSimpArgs false

set_option maxHeartbeats 400000 in
theorem bcosts_any (g : Nat) (l : List ByteArray) (b : ByteArray) (w : World) (h : DICT w g l) (hd : DictOk l) (hb : b.size ≤ 1024) :
    Calls Try.prog 23 #[.pointer (some ⟨g, 0, none⟩), .string b] w fun e w' => ∃ gc, w.heap.size ≤ gc ∧ e = .returned (.slice (some ⟨gc, 0, none⟩) (b.size + 1) (b.size + 1)) ∧
      w'.ownsRow w.heap.size 64 1 (.slice (some ⟨gc, 0, none⟩) (b.size + 1) (b.size + 1)) (b.size + 1) (costs (opt l b b.size)) ∧ Kp (fun _ => False) w w' := by
  have HD := Lib.hid h
  have HO := Lib.hid hd
  clear h hd
  go_enter Try.func23, Try.ntmps23
  go_wp2_with fail
  refine (least_any g l b w HD.out HO.out hb).mono ?_
  rintro e w1 ⟨gc, gf, rfl, h1, h2, hk⟩
  have H1 := Lib.hid h1
  have HK := Lib.hid hk
  clear h1 h2 hk
  go_wp2_with fail
  go_ret
  exact ⟨gc, (own_lt H1.out (k := gc) rfl).1, rfl, H1.out, HK.out⟩

/-- The pieces, each by itself. -/
def bestM (l : List ByteArray) (window : Nat) : Nat → ByteArray → List (Nat × Nat)
  | 0, _ => []
  | f + 1, b => if b.size = 0 then [] else pathM l (b.extract 0 (min window b.size)) ++ bestM l window f (b.extract (min window b.size) b.size)
def bestP (l : List ByteArray) (b : ByteArray) (window : Nat) : List (Nat × Nat) := bestM l window b.size b

theorem pathF_more (f : Nat) (x : Nat × Nat) (r : List (Nat × Nat)) : pathF (f + 1) (x :: r) = x :: pathF f ((x :: r).drop x.2) := rfl
/-- One more token of the path at a place. -/
theorem pathF_step {l : List ByteArray} (hd : DictOk l) (b : ByteArray) (hb : b.size ≤ 2048) (f at_ : Nat) (hlt : at_ < b.size) :
    ∃ z, (firsts l b b.size)[at_]? = some z ∧ 1 ≤ z.2 ∧ at_ + z.2 ≤ b.size ∧ z.1 < 256 + l.length ∧ pathF (f + 1) (firsts l b (b.size - at_)) = z :: pathF f (firsts l b (b.size - (at_ + z.2))) := by
  obtain ⟨k, hk⟩ : ∃ k, b.size - at_ = k + 1 := ⟨b.size - at_ - 1, by omega⟩
  obtain ⟨z, hz, he, hmin⟩ := best_step hd b k (by omega) hb (opt_small hd b hb k (by omega))
  obtain ⟨_, s1, s2, s3, _⟩ := step_mng hd b _ (by omega) z hz
  have hf : firsts l b (k + 1) = z :: firsts l b k := by simp only [firsts]; rw [he]
  have hd0 := firsts_drop l b b.size at_
  rw [hk, hf] at hd0
  refine ⟨z, ?_, s1, by omega, s3, ?_⟩
  · have := congrArg (fun t => t[0]?) hd0
    simpa using this
  · rw [hk, hf, pathF_more, ← hf, firsts_drop]
    congr 3
    omega

def BRel (l : List ByteArray) (b0 : ByteArray) (window : Nat) (b : ByteArray) (acc : List (Nat × Nat)) (v : Value) (w wr : World) : Prop :=
  (∃ f, bestP l b0 window = acc ++ bestM l window f b ∧ b.size ≤ f) ∧ wr.ownsRow w.heap.size 3 1 v acc.length (ints .i64 (toks acc)) ∧ Kp (fun _ => False) w wr
def PRel (l : List ByteArray) (p : ByteArray) (at_ : Nat) (acc0 acc : List (Nat × Nat)) (v : Value) (w wr : World) : Prop :=
  (∃ f, acc0 ++ pathM l p = acc ++ pathF f (firsts l p (p.size - at_)) ∧ p.size - at_ ≤ f) ∧ wr.ownsRow w.heap.size 3 1 v acc.length (ints .i64 (toks acc)) ∧ Kp (fun _ => False) w wr

set_option maxHeartbeats 400000 in
theorem bparse_none (v : Value) (b : ByteArray) (n : Int) (w : World) (hb : b.size ≤ 140737488351232) (h : n < 1 ∨ 1024 < n ∨ 1024 < b.size) :
    Calls Try.prog 22 #[v, .string b, .int .i64 n] w fun e w' => e = .returned (.slice none 0 0) ∧ w = w' := by
  by_cases h1 : n < 1
  · go_enter Try.func22, Try.ntmps22
    go_wp2_with fail
    go_ret
    exact ⟨rfl, rfl⟩
  · by_cases h2 : 1024 < n
    · go_enter Try.func22, Try.ntmps22
      go_wp2_with fail
      go_ret
      exact ⟨rfl, rfl⟩
    · have h3 : 1024 < b.size := by omega
      clear h
      go_enter Try.func22, Try.ntmps22
      go_wp2_with fail
      go_ret
      exact ⟨rfl, rfl⟩

set_option maxRecDepth 100000 in
set_option maxHeartbeats 4000000 in
theorem bparse_any (g : Nat) (l : List ByteArray) (b : ByteArray) (window : Nat) (w : World) (h : DICT w g l) (hd : DictOk l) (hb : b.size ≤ 1024) (hw1 : 1 ≤ window) (hw2 : window ≤ 1024) :
    Calls Try.prog 22 #[.pointer (some ⟨g, 0, none⟩), .string b, .int .i64 window] w fun e w' =>
      ∃ v, e = .returned v ∧ w'.ownsRow w.heap.size 3 1 v (bestP l b window).length (ints .i64 (toks (bestP l b window))) ∧ Kp (fun _ => False) w w' := by
  have HD := Lib.hid h
  have HO := Lib.hid hd
  have hfew := hd.few
  clear h hd
  go_enter Try.func22, Try.ntmps22
  go_wp2_with fail
  go_loopw [1, 7] (fun bv v wr => ∃ (c : ByteArray) (acc : List (Nat × Nat)), c.size ≤ b.size ∧ bv = .string c ∧ acc.length + c.size ≤ b.size ∧ ∃ v2, v2 = v ∧ Hid (BRel l b window c acc v2 w wr)) (fun bv _ _ => match bv with | .string c => c.size | _ => 0)
  case atStart => exact ⟨b, [], Nat.le_refl _, rfl, by simp, _, rfl, ⟨b.size, rfl, Nat.le_refl _⟩, World.ownsRow_nil _ _ _ _, Kp.refl _ _⟩
  case round =>
    obtain ⟨c, acc, hcs, rfl, hacc, v2, rfl, HB⟩ := hrel
    obtain ⟨A1, cap1, rfl⟩ := own_slice HB.out.2.1
    by_cases hc0 : c.size = 0
    · have hce : c = ⟨#[]⟩ := ByteArray.ext (Array.eq_empty_of_size_eq_zero hc0)
      subst hce
      go_wp2_with fail
      go_ret
      obtain ⟨⟨f, h1, h2⟩, h3, h4⟩ := HB.out
      have : bestP l b window = acc := by
        rw [h1]
        cases f with
        | zero => simp [bestM]
        | succ f => simp [bestM, ByteArray.size]
      rw [this]
      exact ⟨_, rfl, h3, h4⟩
    · obtain ⟨p, HP⟩ : ∃ p, Hid (p = c.extract 0 (min window c.size)) := ⟨_, Lib.hid rfl⟩
      obtain ⟨q, HQ⟩ : ∃ q, Hid (q = c.extract (min window c.size) c.size) := ⟨_, Lib.hid rfl⟩
      have hps : p.size = min window c.size := by rw [HP.out, extract_size _ _ _ (Nat.min_le_right _ _)]; omega
      have hqs : q.size = c.size - min window c.size := by rw [HQ.out, extract_size _ _ _ (Nat.le_refl _)]
      have hne : (c.toList == []) = false := by
        rw [beq_eq_false_iff_ne, ByteArray.toList_eq]
        intro e
        have : c.data.toList.length = c.size := Array.length_toList
        rw [e] at this
        simp at this
        omega
      have hpp : 1 ≤ p.size := by omega
      have hp1 : p.size ≤ c.size := by omega
      have hqq : q.size + p.size = c.size := by omega
      have HB1 : Hid (∃ f, bestP l b window = acc ++ (pathM l p ++ bestM l window f q) ∧ q.size ≤ f) := by
        obtain ⟨f, h1, h2⟩ := HB.out.1
        obtain ⟨f, rfl⟩ : ∃ f', f = f' + 1 := ⟨f - 1, by omega⟩
        refine Lib.hid ⟨f, ?_, by omega⟩
        rw [h1]
        simp only [bestM]
        rw [if_neg hc0, HP.out, HQ.out]
      have HB2 := Lib.hid HB.out.2.1
      have HB3 := Lib.hid HB.out.2.2
      have hq1 : q.size < c.size := by omega
      have hpb : p.size ≤ b.size := by omega
      have hapq : acc.length + p.size + q.size ≤ b.size := by omega
      obtain ⟨W, HW⟩ : ∃ W, Hid (W = wr) := ⟨_, Lib.hid rfl⟩
      clear hps hqs HB
      by_cases hle : window ≤ c.size
      case' pos =>
        have E1 : Hid (c.extract 0 window = p) := by
          refine Lib.hid ?_
          rw [HP.out, Nat.min_eq_left hle]
        have E2 : Hid (c.extract window c.size = q) := by
          refine Lib.hid ?_
          rw [HQ.out, Nat.min_eq_left hle]
        go_wp2_with fail
        rw [E1.out, E2.out]
        clear E1 E2
      case' neg =>
        have hcp : p = c := by
          rw [HP.out, Nat.min_eq_right (by omega)]
          simp
        have E2 : Hid (ByteArray.empty = q) := by
          refine Lib.hid ?_
          rw [HQ.out, Nat.min_eq_right (by omega)]
          simp
        subst hcp
        go_wp2_with fail
        rw [E2.out]
        clear E2
      all_goals
        clear HP HQ
        refine (least_any g l p wr (HD.out.kp HB3.out) HO.out (by omega)).mono ?_
        rintro e w1 ⟨gc, gf, rfl, h1, h2, hk⟩
        have HF := Lib.hid h2
        have HK := Lib.hid (HB3.out.trans hk (fun _ h => .inl h))
        have HOa := Lib.hid (hk.own HB2.out (fun _ _ h => h))
        clear h1 h2 hk
        have HGF : Hid (w.heap.size ≤ gf ∧ ∀ i, (Value.slice A1 acc.length cap1).ownBlock = some i → i ≠ gf) := by
          refine Lib.hid ⟨Nat.le_trans HB3.out.size (own_lt HF.out (k := gf) rfl).1, fun i hi => ?_⟩
          have h1 := (own_lt HB2.out hi).2
          have h2 := (own_lt HF.out (k := gf) rfl).1
          omega
        go_wp2_with fail
        go_loopw [7, 11] (fun v i wr => ∃ (at_ : Nat) (acc1 : List (Nat × Nat)), at_ ≤ p.size ∧ i = .int .i64 at_ ∧ acc1.length ≤ acc.length + at_ ∧ ∃ v2, v2 = v ∧ Hid (PRel l p at_ acc acc1 v2 w wr) ∧ Hid (wr.ownsRow w.heap.size 89 2 (.slice (some ⟨gf, 0, none⟩) p.size p.size) p.size (cells2 (firsts l p p.size))) ∧ (∀ i, v2.ownBlock = some i → i ≠ gf)) (fun _ i _ => p.size - (intOf i).toNat)
        case atStart => exact ⟨0, acc, Nat.zero_le _, rfl, Nat.le_refl _, _, rfl, ⟨⟨p.size, rfl, by omega⟩, HOa.out, HK.out⟩, own_low HF.out HB3.out.size, HGF.out.2⟩
        case round =>
          obtain ⟨at_, acc1, hat, rfl, hacc1, v2, rfl, HPR, HFW, hfr⟩ := hrel
          have HFR := Lib.hid hfr
          clear hfr
          obtain ⟨A2, cap2, rfl⟩ := own_slice HPR.out.2.1
          by_cases hlt : at_ < p.size
          · obtain ⟨f, h1, h2⟩ := HPR.out.1
            obtain ⟨f, rfl⟩ : ∃ f', f = f' + 1 := ⟨f - 1, by omega⟩
            obtain ⟨z, hz, z1, z2, z3, hs⟩ := pathF_step HO.out p (by omega) f at_ hlt
            have H1 : Hid (acc ++ pathM l p = (acc1 ++ [z]) ++ pathF f (firsts l p (p.size - (at_ + z.2)))) := by
              refine Lib.hid ?_
              rw [h1, hs]
              simp
            obtain ⟨hc1, hc2⟩ := cells2_get _ _ _ hz
            have d0 := (own_cellS HFW.out _ _ hc1).1
            have d1 := (own_cellS HFW.out _ _ hc2).1
            have HF1 : Hid (p.size - (at_ + z.2) ≤ f) := Lib.hid (by omega)
            have HC1 := Lib.hid hc1
            have HC2 := Lib.hid hc2
            clear h1 h2 hs hz hc1 hc2
            obtain ⟨z1', z2'⟩ := z
            simp only at z1 z2 z3 d0 d1 H1 HF1 HC1 HC2
            have HKR := Lib.hid HPR.out.2.2
            have HOR := Lib.hid HPR.out.2.1
            clear HPR
            go_wp2_with (at_builtin; refine app1 w.heap.size rfl _ _ 30 3 (.int .i64 0) 8 rfl Try.underlying30 info_int2 rfl (by decide) (.slice A2 acc1.length cap2) _ _ (.int .i64 (z1' : Int)) rfl rfl rfl HOR.out HKR.out.size (by omega) ?_; intro v3 w3 hown hgrow hfresh; have hb3 : w3.heap[gf]? = _ := (hgrow.block gf (own_lt HFW.out (k := gf) rfl).2 (fun h => HFR.out _ h.symm rfl)).trans (own_blk HFW.out (k := gf) rfl).choose_spec; have HO3 := Lib.hid hown; have HFR3 : Hid (∀ i, v3.ownBlock = some i → i ≠ gf) := (fun i hi h => (hfresh i hi).elim (fun h2 => HFR.out _ h2 h) (fun h2 => by have h3 := (own_lt HFW.out (k := gf) rfl).2; omega)); have HK3 := Lib.hid (HKR.out.grown hgrow (fun i hi => .inr (own_lt HOR.out hi).1)); have HFW3 : Hid (w3.ownsRow w.heap.size 89 2 (.slice (some ⟨gf, 0, none⟩) p.size p.size) p.size (cells2 (firsts l p p.size))) := HFW.out.kept hgrow (.inr (fun h => HFR.out _ h.symm rfl)); clear hown hgrow hfresh hb3; have d0 := (own_cellS HFW3.out _ _ HC1.out).1; have d1 := (own_cellS HFW3.out _ _ HC2.out).1)
            refine ⟨⟨at_ + z2', acc1 ++ [(z1', z2')], by omega, by simp, by simp; omega, _, rfl, ⟨⟨f, H1.out, HF1.out⟩, ?_, HK3.out⟩, HFW3.out, HFR3.out⟩, by simp only [intOf]; omega⟩
            simpa [ints, toks] using HO3.out
          · obtain rfl : at_ = p.size := by omega
            go_wp2_with fail
            obtain ⟨f, h1, h2⟩ := HPR.out.1
            have e1 : acc ++ pathM l p = acc1 := by
              rw [h1, Nat.sub_self]
              cases f <;> simp [firsts, pathF]
            obtain ⟨f2, h3, h4⟩ := HB1.out
            refine ⟨⟨q, acc1, by omega, rfl, by omega, _, rfl, ⟨⟨f2, ?_, h4⟩, HPR.out.2.1, HPR.out.2.2⟩⟩, hq1⟩
            rw [h3, ← e1]
            simp

end Go.Proofs.Ytbhjckhhmcfpfaa

/- The reference's Best. Nothing old is written. -/
import Derived.Test.YtbhjckhhmcfpfaaRCosts
import Derived.Test.YtbhjckhhmcfpfaaBest
namespace Go.Proofs.Ytbhjckhhmcfpfaa
open Go.RowKit
set_option linter.unusedVariables false
set_option linter.unusedSimpArgs false

theorem ext_data {a b : ByteArray} (h : a.data.toList = b.data.toList) : a = b := ByteArray.ext (Array.toList_inj.1 h)
theorem piece_head (b : ByteArray) (fr w : Nat) (hf : fr ≤ b.size) : (b.extract fr b.size).extract 0 (min w (b.extract fr b.size).size) = b.extract fr (min (fr + w) b.size) := by
  apply ext_data
  rw [extract_size _ _ _ (Nat.le_refl _), extract_data, extract_data, extract_data]
  simp only [List.drop_zero, Nat.sub_zero]
  rw [List.take_take]
  congr 1
  omega
theorem piece_rest (b : ByteArray) (fr w : Nat) (hf : fr ≤ b.size) : (b.extract fr b.size).extract (min w (b.extract fr b.size).size) (b.extract fr b.size).size = b.extract (fr + w) b.size := by
  apply ext_data
  have hl : b.data.toList.length = b.size := Array.length_toList
  rw [extract_size _ _ _ (Nat.le_refl _), extract_data, extract_data, extract_data]
  rw [List.drop_take, List.take_take, List.drop_drop]
  by_cases h : w ≤ b.size - fr
  · rw [Nat.min_eq_left h]
    congr 1
    omega
  · rw [Nat.min_eq_right (by omega), List.drop_of_length_le (by omega), List.drop_of_length_le (by omega)]
    simp
theorem bestM_piece (l : List ByteArray) (w : Nat) (b : ByteArray) (f fr : Nat) (hf : fr < b.size) (hff : b.size - fr ≤ f) :
    ∃ f', bestM l w f (b.extract fr b.size) = pathM l (b.extract fr (min (fr + w) b.size)) ++ bestM l w f' (b.extract (fr + w) b.size) ∧ f' + 1 = f := by
  obtain ⟨f, rfl⟩ : ∃ f', f = f' + 1 := ⟨f - 1, by omega⟩
  refine ⟨f, ?_, rfl⟩
  simp only [bestM]
  rw [if_neg (by rw [extract_size _ _ _ (Nat.le_refl _)]; omega), piece_head b fr w (by omega), piece_rest b fr w (by omega)]
theorem bestM_end (l : List ByteArray) (w : Nat) (b : ByteArray) (f fr : Nat) (hf : b.size ≤ fr) : bestM l w f (b.extract fr b.size) = [] := by
  cases f with
  | zero => rfl
  | succ f =>
    simp only [bestM]
    rw [if_pos (by rw [extract_size _ _ _ (Nat.le_refl _)]; omega)]

/-- What is not the token that is taken. -/
theorem keeps_of (l : List ByteArray) (p : ByteArray) (at_ k : Nat) (hk : at_ + (k + 1) = p.size) (x : Nat × Nat) (h1 : 1 ≤ x.2) (h2 : at_ + x.2 ≤ p.size) :
    keeps (opt l p k) ((opt l p (k + 1)).getD 0 (0, 0)) x =
      (decide (1 + ((opt l p p.size).getD (at_ + x.2) (0, 0)).1 = ((opt l p p.size).getD at_ (0, 0)).1) && decide (wt x.1 + ((opt l p p.size).getD (at_ + x.2) (0, 0)).2 = ((opt l p p.size).getD at_ (0, 0)).2)) := by
  unfold keeps cst
  rw [opt_getD l p k (x.2 - 1) (by omega), opt_getD l p p.size at_ (by omega), opt_getD l p p.size (at_ + x.2) h2]
  rw [show k - (x.2 - 1) = p.size - (at_ + x.2) by omega, show p.size - at_ = k + 1 by omega]

set_option maxRecDepth 100000 in
set_option maxHeartbeats 8000000 in
theorem rbest_any (A : Option Addr) (cap0 : Nat) (l : List ByteArray) (b : ByteArray) (wn : Nat) (w : World) (hr : RdS w A (strs l)) (hd : DictOk l) (hb : b.size ≤ 1024) (hw1 : 1 ≤ wn) (hw2 : wn ≤ 1024) :
    Calls Try.prog 29 #[.slice A l.length cap0, .string b, .int .i64 wn] w fun e w' =>
      ∃ v, e = .returned v ∧ w'.ownsRow w.heap.size 3 1 v (bestP l b wn).length (ints .i64 (toks (bestP l b wn))) ∧ Kp (fun _ => False) w w' := by
  have HR := Lib.hid hr
  have HO := Lib.hid hd
  have hfew := hd.few
  clear hr hd
  go_enter Try.func29, Try.ntmps29
  go_wp2_with fail
  go_loopw [7, 8] (fun v i wr => ∃ (fr : Nat) (acc : List (Nat × Nat)), i = .int .i64 fr ∧ fr ≤ b.size + wn ∧ ∃ v2, v2 = v ∧ acc.length ≤ fr ∧ acc.length ≤ b.size ∧ Hid (∃ f, bestP l b wn = acc ++ bestM l wn f (b.extract fr b.size) ∧ b.size - fr ≤ f) ∧ Hid (wr.ownsRow w.heap.size 3 1 v2 acc.length (ints .i64 (toks acc))) ∧ Hid (Kp (fun _ => False) w wr)) (fun _ i _ => b.size - (intOf i).toNat)
  case atStart =>
    refine ⟨0, [], rfl, Nat.zero_le _, _, rfl, Nat.zero_le _, Nat.zero_le _, ⟨b.size, ?_, by omega⟩, World.ownsRow_nil _ _ _ _, Kp.refl _ _⟩
    unfold bestP
    simp
  case round =>
    obtain ⟨fr, acc, rfl, hfr, vj, rfl, hacc, hacc2, HB, HJ, HKr⟩ := hrel
    obtain ⟨Aj, capj, rfl⟩ := own_slice HJ.out
    by_cases hlt : fr < b.size
    · obtain ⟨p, HP⟩ : ∃ p, Hid (p = b.extract fr (min (fr + wn) b.size)) := ⟨_, Lib.hid rfl⟩
      have hps : p.size = min (fr + wn) b.size - fr := by rw [HP.out, extract_size _ _ _ (Nat.min_le_right _ _)]
      have hp1 : 1 ≤ p.size := by omega
      have hp2 : p.size ≤ 1024 := by omega
      have hp3 : fr + p.size ≤ b.size := by omega
      have hp4 : p.size ≤ wn := by omega
      have HB1 : Hid (∃ f, bestP l b wn = (acc ++ pathM l p) ++ bestM l wn f (b.extract (fr + wn) b.size) ∧ b.size - (fr + wn) ≤ f) := by
        obtain ⟨f, h1, h2⟩ := HB.out
        obtain ⟨f', h3, h4⟩ := bestM_piece l wn b f fr hlt h2
        refine Lib.hid ⟨f', ?_, by omega⟩
        rw [h1, h3, ← HP.out, List.append_assoc]
      clear hps HB
      go_upto_region 5 with fail
      go_cut [9] (fun v wx => v = .string p ∧ wr = wx)
      case first =>
        by_cases hle : fr + wn ≤ b.size
        · have E : Hid (b.extract fr (fr + wn) = p) := by
            refine Lib.hid ?_
            rw [HP.out, Nat.min_eq_left hle]
          have e2 : ((fr : Int) + wn).toNat = fr + wn := by omega
          go_wp2_with fail
          go_meet
          exact ⟨by rw [E.out], rfl⟩
        · have E : Hid (b.extract fr b.size = p) := by
            refine Lib.hid ?_
            rw [HP.out, Nat.min_eq_right (by omega)]
          go_wp2_with fail
          go_meet
          exact ⟨by rw [E.out], rfl⟩
      case rest =>
        obtain ⟨rfl, rfl⟩ := hcut
        clear HP
        go_wp2_with fail
        refine (rcosts_any A cap0 l p wr (HR.out.kp HKr.out (fun _ _ _ h => h)) HO.out hp2).mono ?_
        rintro e w5 ⟨gt, gb, rfl, hrr, hk⟩
        have HRR := Lib.hid hrr
        have HJ5 := Lib.hid (hk.own HJ.out (fun _ _ h => h))
        have HK5 := Lib.hid (HKr.out.trans hk (fun _ h => .inl h))
        have HNG : Hid (∀ i, (Value.slice Aj acc.length capj).ownBlock = some i → i ≠ gt ∧ i ≠ gb) := by
          refine Lib.hid fun i hi => ?_
          have h1 := (own_lt HJ.out hi).2
          have h2 := (own_lt hrr.fst (k := gt) rfl).1
          have h3 := (own_lt hrr.snd (k := gb) rfl).1
          omega
        have HRg := Lib.hid (show w.heap.size ≤ w5.heap.size from HK5.out.size)
        clear hrr hk
        go_wp2_with fail
        go_loopw [7, 12] (fun v i wr => ∃ (at_ : Nat) (acc1 : List (Nat × Nat)), at_ ≤ p.size ∧ i = .int .i64 at_ ∧ acc1.length ≤ acc.length + at_ ∧ ∃ v2, v2 = v ∧ Hid (PRel l p at_ acc acc1 v2 w wr) ∧ Hid (RRel (p.size + 1) 0 gt gb (opt l p p.size) wr wr) ∧ (∀ i, v2.ownBlock = some i → i ≠ gt ∧ i ≠ gb)) (fun _ i _ => p.size - (intOf i).toNat)
        case atStart => exact ⟨0, acc, Nat.zero_le _, rfl, Nat.le_refl _, _, rfl, ⟨⟨p.size, rfl, by omega⟩, HJ5.out, HK5.out⟩, ⟨own_low HRR.out.fst (Nat.zero_le _), own_low HRR.out.snd (Nat.zero_le _), Kp.refl _ _⟩, HNG.out⟩
        case round =>
          obtain ⟨at_, acc1, hat, rfl, hacc1, v2, rfl, HPR, HRW, hfr⟩ := hrel
          have HFR := Lib.hid hfr
          clear hfr
          obtain ⟨A2, cap2, rfl⟩ := own_slice HPR.out.2.1
          by_cases hal : at_ < p.size
          · obtain ⟨k, hk⟩ : ∃ k, at_ + (k + 1) = p.size := ⟨p.size - at_ - 1, by omega⟩
            go_wp2_with fail
            refine (choices_any A cap0 l p at_ _ (HR.out.kp HPR.out.2.2 (fun _ _ _ h => h)) HO.out (by omega) hal).mono ?_
            rintro e w6 ⟨vs, rfl, hos, hk6⟩
            obtain ⟨xs, HXS⟩ : ∃ xs, Hid (xs = choicesM l p at_) := ⟨_, Lib.hid rfl⟩
            rw [← HXS.out] at hos
            obtain ⟨As, caps, rfl⟩ := own_slice hos
            have HRS := Lib.hid (RdS.ownS hos)
            have HX6 := Lib.hid (HRW.out.kept hk6)
            have HJ6 := Lib.hid (hk6.own HPR.out.2.1 (fun _ _ h => h))
            have HK6 := Lib.hid (HPR.out.2.2.trans hk6 (fun _ h => .inl h))
            have HPF := Lib.hid HPR.out.1
            have HJB : Hid (∀ i, (Value.slice A2 acc1.length cap2).ownBlock = some i → i < wr.heap.size) := Lib.hid (fun i hi => (own_lt HPR.out.2.1 hi).2)
            have HSB : Hid (∀ bb o, As = some ⟨bb, o, none⟩ → wr.heap.size ≤ bb) := Lib.hid (fun bb o h => (own_lt hos (k := bb) (by rw [h]; rfl)).1)
            have hxl : xs.length ≤ 41 := by
              rw [HXS.out]
              unfold choicesM stands
              have := standsTo_len l p at_ (min 40 (p.size - at_))
              rw [List.length_append, List.length_map]
              simp only [List.length_cons, List.length_nil]
              omega
            have HC : Hid (∀ x, x ∈ xs → 1 ≤ x.2 ∧ at_ + x.2 ≤ p.size ∧ x.1 < 356) := by
              refine Lib.hid fun x hx => ?_
              rw [HXS.out] at hx
              obtain ⟨_, s1, s2, s3, _⟩ := step_mng HO.out p at_ hal x ((mem_choices HO.out p at_ (by omega) x).1 hx)
              exact ⟨s1, s2, by omega⟩
            have hpat : p.size - (k + 1) = at_ := by omega
            have HPK : Hid (∃ x, x ∈ xs ∧ keeps (opt l p k) ((opt l p (k + 1)).getD 0 (0, 0)) x = true) := by
              have := pick_some HO.out p k (by omega) (by omega)
              rw [hpat, ← HXS.out] at this
              exact this
            have HPI : Hid (∀ (i : Nat) (x : Nat × Nat), xs[i]? = some x → (∀ (j : Nat) (y : Nat × Nat), j < i → xs[j]? = some y → keeps (opt l p k) ((opt l p (k + 1)).getD 0 (0, 0)) y = false) → keeps (opt l p k) ((opt l p (k + 1)).getD 0 (0, 0)) x = true → (firsts l p p.size)[at_]? = some x) := by
              refine Lib.hid fun i x h1 h2 h3 => ?_
              have h4 := pick_first HO.out p k (by omega) (by omega) i x (by rw [hpat, ← HXS.out]; exact h1) (by rw [hpat, ← HXS.out]; exact h2) h3
              obtain ⟨z, hz, _, _, _, hpf⟩ := pathF_step HO.out p (by omega) 0 at_ hal
              rw [show p.size - at_ = k + 1 by omega] at hpf
              have h5 : firsts l p (k + 1) = x :: firsts l p k := by simp only [firsts]; rw [← h4]
              rw [h5] at hpf
              simp only [pathF] at hpf
              injection hpf with hpf
              rw [hpf]
              exact hz
            have hosm := opt_small HO.out p (by omega) p.size (Nat.le_refl _)
            have HSM : Hid (∀ i, i ≤ p.size → ((opt l p p.size).getD i (0, 0)).1 ≤ 1024 ∧ ((opt l p p.size).getD i (0, 0)).2 ≤ 40960 ∧ (opt l p p.size)[i]? = some ((opt l p p.size).getD i (0, 0))) := by
              refine Lib.hid fun i hi => ?_
              have h1 := hosm _ (getD_mem_opt l p p.size i hi)
              have hl := opt_len l p p.size
              refine ⟨by omega, by omega, ?_⟩
              rw [List.getD_eq_getElem?_getD, List.getElem?_eq_getElem (show i < (opt l p p.size).length by omega)]
              rfl
            have HKO : Hid (∀ x, x ∈ xs → keeps (opt l p k) ((opt l p (k + 1)).getD 0 (0, 0)) x = _) := Lib.hid (fun x hx => keeps_of l p at_ k hk x (HC.out x hx).1 (HC.out x hx).2.1)
            clear hos hk6 HPR HRW hosm hpat
            go_wp2_with fail
            go_loopw [7, 12, 14] (fun v a i wq => ∃ ii : Nat, ii ≤ xs.length ∧ i = .int .i64 ii ∧ a = .int .i64 at_ ∧ v = .slice A2 acc1.length cap2 ∧ Hid (∀ (j : Nat) (y : Nat × Nat), j < ii → xs[j]? = some y → keeps (opt l p k) ((opt l p (k + 1)).getD 0 (0, 0)) y = false) ∧ Hid (Kp (fun _ => False) w6 wq)) (fun _ _ i _ => xs.length - (intOf i).toNat)
            case atStart => exact ⟨0, Nat.zero_le _, rfl, rfl, rfl, fun j y hj => by omega, Kp.refl _ _⟩
            case round =>
              obtain ⟨ii, hii, rfl, rfl, rfl, HN, HKq⟩ := hrel
              by_cases hil : ii < xs.length
              · obtain ⟨x, hx⟩ : ∃ x, xs[ii]? = some x := ⟨xs[ii], List.getElem?_eq_getElem hil⟩
                obtain ⟨hg1, hg2⟩ := cells2_get xs ii x hx
                obtain ⟨gs, os, rfl, hs1⟩ := HRS.out _ _ hg1
                obtain ⟨gs2, os2, hA2, hs2⟩ := HRS.out _ _ hg2
                injection hA2 with hA2
                injection hA2 with hA2 hA3
                subst hA2 hA3
                have hs1 := HKq.out.cell hs1 (fun h => h)
                have hs2 := HKq.out.cell hs2 (fun h => h)
                rw [← Nat.add_assoc] at hs2
                have hxm := List.mem_of_getElem? hx
                obtain ⟨q1, q2, q3⟩ := HC.out x hxm
                have hko := HKO.out x hxm
                obtain ⟨o1, o2, o3⟩ := HSM.out at_ (by omega)
                obtain ⟨r1', r2', r3⟩ := HSM.out (at_ + x.2) q2
                obtain ⟨m, HMm⟩ : ∃ m, Hid (m = (opt l p p.size).getD at_ (0, 0)) := ⟨_, Lib.hid rfl⟩
                obtain ⟨r, HRr⟩ : ∃ r, Hid (r = (opt l p p.size).getD (at_ + x.2) (0, 0)) := ⟨_, Lib.hid rfl⟩
                rw [← HMm.out] at o1 o2 o3 hko
                rw [← HRr.out] at r1' r2' r3 hko
                obtain ⟨⟨hm1, _⟩, ⟨hm2, _⟩⟩ := (HX6.out.kept HKq.out).at_ o3
                obtain ⟨⟨hr1, _⟩, ⟨hr2, _⟩⟩ := (HX6.out.kept HKq.out).at_ r3
                have HX := Lib.hid hx
                obtain ⟨m1, m2⟩ := m
                obtain ⟨r1, r2⟩ := r
                obtain ⟨x1, x2⟩ := x
                simp only at q1 q2 q3 o1 o2 r1' r2' hm1 hm2 hr1 hr2 hs1 hs2 hko
                have HKOx := Lib.hid hko
                have hwx := wt_bd x1
                clear hx hxm hko hg1 hg2 o3 r3
                have hi1 : (0 : Int) ≤ (at_ : Int) + x2 := by omega
                have hi2 : (at_ : Int) + x2 < (p.size : Int) + 1 := by omega
                have hi3 : IntKind.i64.wrap ((at_ : Int) + x2) = (at_ : Int) + x2 := by rw [IntKind.wrap_i64]; omega
                have hi4 : ((at_ : Int) + x2).toNat = at_ + x2 := by omega
                have hi5 : IntKind.i64.wrap (1 + (r1 : Int)) = 1 + (r1 : Int) := by rw [IntKind.wrap_i64]; omega
                have hi6 : IntKind.i64.wrap ((wt x1 : Int) + (r2 : Int)) = (wt x1 : Int) + (r2 : Int) := by rw [IntKind.wrap_i64]; omega
                have hi7 : (0 : Int) ≤ (ii : Int) := by omega
                have hi8 : (ii : Int) < (xs.length : Int) := by omega
                have hi9 : (0 : Int) ≤ (at_ : Int) := by omega
                have hi10 : (at_ : Int) < (p.size : Int) + 1 := by omega
                go_wp2_with fail
                go_cut [90] (fun v wx => ∃ D, v = .bool D ∧ Hid (D = (decide (1 + r1 = m1) && decide (wt x1 + r2 = m2))) ∧ Hid (Kp (fun _ => False) wr wx))
                case first =>
                  by_cases hE : 1 + r1 = m1
                  · have hEb : (1 + (r1 : Int) == (m1 : Int)) = true := by rw [beq_iff_eq]; omega
                    obtain ⟨D, HD⟩ : ∃ D, Hid (D = decide (wt x1 + r2 = m2)) := ⟨_, Lib.hid rfl⟩
                    have hFb : ((wt x1 : Int) + (r2 : Int) == (m2 : Int)) = D := by
                      rw [HD.out, Bool.eq_iff_iff, beq_iff_eq, decide_eq_true_eq]
                      omega
                    have HE := Lib.hid hE
                    clear hE
                    go_region_held3 (fun w' => w'.cell? ⟨gs, os + ii * 2, none⟩ = some (.int .i64 (x1 : Int)) ∧ w'.cell? ⟨gs, os + ii * 2 + 1, none⟩ = some (.int .i64 (x2 : Int)) ∧ w'.cell? ⟨gt, at_ + x2, none⟩ = some (.int .i64 (r1 : Int)) ∧ w'.cell? ⟨gb, at_ + x2, none⟩ = some (.int .i64 (r2 : Int)) ∧ w'.cell? ⟨gt, at_, none⟩ = some (.int .i64 (m1 : Int)) ∧ w'.cell? ⟨gb, at_, none⟩ = some (.int .i64 (m2 : Int)))
                      (first
                        | (go_keep; done)
                        | (exact ⟨hk7.cell hs1 (fun h => h), hk7.cell hs2 (fun h => h), hk7.cell hr1 (fun h => h), hk7.cell hr2 (fun h => h), hk7.cell hm1 (fun h => h), hk7.cell hm2 (fun h => h)⟩))
                      (first
                        | (go_at_call 46; refine (rbits_wt x1 _ (by omega)).mono ?_; rintro e w7 ⟨rfl, hk7⟩))
                    all_goals
                      go_wp2_with fail
                      go_meet
                      exact ⟨_, rfl, by show _ = _; rw [HD.out]; simp [HE.out], (Kp.refl (fun _ => False) wr).drew.trans hk7 (fun _ h => .inl h)⟩
                  · have hEb : (1 + (r1 : Int) == (m1 : Int)) = false := by rw [beq_eq_false_iff_ne]; omega
                    have HE := Lib.hid hE
                    clear hE
                    go_quiet (fail)
                    go_wp2_with fail
                    go_meet
                    exact ⟨false, rfl, by show _ = _; simp [HE.out], (Kp.refl (fun _ => False) wr).drewN _⟩
                case rest =>
                  obtain ⟨D, rfl, HDd, hkc⟩ := hcut
                  have HKc := Lib.hid (HKq.out.trans hkc (fun _ h => .inl h))
                  have hs1 := hkc.cell hs1 (fun h => h)
                  have hs2 := hkc.cell hs2 (fun h => h)
                  have HKB : Hid (keeps (opt l p k) ((opt l p (k + 1)).getD 0 (0, 0)) (x1, x2) = D) := by
                    refine Lib.hid ?_
                    rw [HKOx.out, HDd.out]
                  clear hkc hi1 hi2 hi3 hi4 hi5 hi6 hi7 hi8 hi9 hi10 hr1 hr2 hm1 hm2
                  cases D with
                  | false =>
                    go_wp2_with fail
                    refine ⟨⟨ii + 1, by omega, by simp, rfl, rfl, fun j y hj hy => ?_, HKc.out⟩, by simp only [intOf]; omega⟩
                    rcases Nat.lt_or_ge j ii with h | h
                    · exact HN.out j y h hy
                    · obtain rfl : j = ii := by omega
                      rw [HX.out] at hy
                      injection hy with hy
                      rw [← hy]
                      exact HKB.out
                  | true =>
                    have hz := HPI.out ii (x1, x2) HX.out HN.out HKB.out
                    have HJc := Lib.hid (HKc.out.own HJ6.out (fun _ _ h => h))
                    have HKf := Lib.hid (HK6.out.trans HKc.out (fun _ h => .inl h))
                    have hx6 := HX6.out.kept HKc.out
                    have HXc : Hid (RRel (p.size + 1) 0 gt gb (opt l p p.size) wc wc) := Lib.hid ⟨hx6.fst, hx6.snd, Kp.refl _ _⟩
                    obtain ⟨f, h1, h2⟩ := HPF.out
                    obtain ⟨f, rfl⟩ : ∃ f', f = f' + 1 := ⟨f - 1, by omega⟩
                    obtain ⟨z, hz2, _, _, _, hs⟩ := pathF_step HO.out p (by omega) f at_ hal
                    have hze : z = (x1, x2) := by
                      rw [hz] at hz2
                      injection hz2 with hz2
                      exact hz2.symm
                    subst hze
                    have H1 : Hid (acc ++ pathM l p = (acc1 ++ [(x1, x2)]) ++ pathF f (firsts l p (p.size - (at_ + x2)))) := by
                      refine Lib.hid ?_
                      rw [h1, hs]
                      simp
                    have HF1 : Hid (p.size - (at_ + x2) ≤ f) := Lib.hid (by omega)
                    have HGS : Hid (∀ w3, wc.grownBy w3 (Value.slice A2 acc1.length cap2).ownBlock → w3.cell? ⟨gs, os + ii * 2 + 1, none⟩ = some (.int .i64 (x2 : Int))) := by
                      refine Lib.hid fun w3 hg => ?_
                      refine (World.cell?_of_block (hg.block gs (World.block_lt_of_cell? wc ⟨gs, os + ii * 2 + 1, none⟩ hs2) (fun h => ?_))).trans hs2
                      have h5 := HSB.out gs os rfl
                      have h6 := HJB.out gs h.symm
                      omega
                    clear hz h1 h2 hz2 hs hx6
                    go_wp2_with (at_builtin; refine app1 w.heap.size rfl _ _ 30 3 (.int .i64 0) 8 rfl Try.underlying30 info_int2 rfl (by decide) (.slice A2 acc1.length cap2) _ _ (.int .i64 (x1 : Int)) rfl rfl rfl HJc.out HKf.out.size (by omega) ?_; intro v3 w3 hown hgrow hfresh; have hgs3 := HGS.out w3 hgrow; have HO3 := Lib.hid hown; have HG3 := Lib.hid hgrow; have HF3 := Lib.hid hfresh; clear hown hgrow hfresh)
                    refine ⟨⟨at_ + x2, acc1 ++ [(x1, x2)], by omega, by simp, by simp; omega, _, rfl, ⟨⟨f, H1.out, HF1.out⟩, ?_, HKf.out.grown HG3.out (fun i hi => .inr (own_lt HJc.out hi).1)⟩, ?_, ?_⟩, by simp only [intOf]; omega⟩
                    · simpa [ints, toks] using HO3.out
                    · refine Lib.hid ⟨HXc.out.fst.kept HG3.out (.inr (fun h => (HFR.out gt h.symm).1 rfl)), HXc.out.snd.kept HG3.out (.inr (fun h => (HFR.out gb h.symm).2 rfl)), Kp.refl _ _⟩
                    · intro i hi
                      rcases HF3.out i hi with h | h
                      · exact HFR.out i h
                      · have h5 := (own_lt HXc.out.fst (k := gt) rfl).2
                        have h6 := (own_lt HXc.out.snd (k := gb) rfl).2
                        omega
              · exfalso
                obtain ⟨x, hxm, hkx⟩ := HPK.out
                obtain ⟨j, hj, hje⟩ := List.mem_iff_getElem.1 hxm
                have := HN.out j x (by omega) (by rw [List.getElem?_eq_getElem hj, hje])
                rw [hkx] at this
                cases this
          · obtain rfl : at_ = p.size := by omega
            go_wp2_with fail
            obtain ⟨f, h1, h2⟩ := HPR.out.1
            have e1 : acc ++ pathM l p = acc1 := by
              rw [h1, Nat.sub_self]
              cases f <;> simp [firsts, pathF]
            obtain ⟨f2, h3, h4⟩ := HB1.out
            refine ⟨⟨fr + wn, acc1, by simp, by omega, _, rfl, by omega, by omega, ⟨f2, ?_, h4⟩, HPR.out.2.1, HPR.out.2.2⟩, by simp only [intOf]; omega⟩
            rw [h3, ← e1]
    · go_wp2_with fail
      have e1 : bestP l b wn = acc := by
        obtain ⟨f, h1, h2⟩ := HB.out
        rw [bestM_end l wn b f fr (by omega), List.append_nil] at h1
        exact h1
      go_ret
      rw [e1]
      exact ⟨_, rfl, HJ.out, HKr.out⟩

end Go.Proofs.Ytbhjckhhmcfpfaa

/- BestLeast: the walk of the law's own function. -/
import Derived.Test.YtbhjckhhmcfpfaaBestAlive
import Derived.Test.YtbhjckhhmcfpfaaRBest
import Derived.Test.YtbhjckhhmcfpfaaFlex
namespace Go.Proofs.Ytbhjckhhmcfpfaa
open Go.RowKit
open Fb (fb fb_add fb_order)
set_option linter.unusedVariables false
set_option linter.unusedSimpArgs false

theorem bestP_whole (l : List ByteArray) (p : ByteArray) (hp : 1 ≤ p.size) : bestP l p p.size = pathM l p := by
  unfold bestP
  obtain ⟨f, hf⟩ : ∃ f, p.size = f + 1 := ⟨p.size - 1, by omega⟩
  have e : bestM l p.size (f + 1) p = pathM l p ++ bestM l p.size f (p.extract p.size p.size) := by
    simp only [bestM]
    rw [if_neg (by omega), Nat.min_self]
    congr 2
    simp
  have e2 : bestM l p.size p.size p = bestM l p.size (f + 1) p := by congr 1
  rw [e2, e, bestM_end l p.size p f p.size (Nat.le_refl _), List.append_nil]

theorem bitsSum_toks (xs : List (Nat × Nat)) : bitsSum (toks xs) = (pathCost xs).2 := by
  unfold bitsSum toks pathCost wt
  rw [List.map_map]
  congr 1
theorem sum_path {l : List ByteArray} (hd : DictOk l) (p : ByteArray) (hp : p.size ≤ 1024) (B : Option Addr) (cap1 : Nat) (xs : List (Nat × Nat)) (hx : Path l p 0 xs) (w : World) (hr : RdS w B (ints .i64 (toks xs))) :
    Calls Try.prog 33 #[.slice B xs.length cap1] w fun e w' => e = .returned (.complex .f64 (fb (pathCost xs).1) (fb (pathCost xs).2)) ∧ Kp (fun _ => False) w w' := by
  have hlen := path_len hd p xs 0 (Nat.zero_le _) hx
  have h := costSum_ok B cap1 (toks xs) w hr (by rw [toks_len]; omega) (fun x hx2 => by
    unfold toks at hx2
    obtain ⟨y, hy, rfl⟩ := List.mem_map.1 hx2
    have h1 := path_tok hd p xs 0 (Nat.zero_le _) hx y.1 (List.mem_map.2 ⟨y, hy, rfl⟩)
    have := hd.few
    omega)
  rw [toks_len, bitsSum_toks] at h
  exact h
theorem says_path {l : List ByteArray} (hd : DictOk l) (p : ByteArray) (hp : p.size ≤ 1024) (A B : Option Addr) (cap0 cap1 : Nat) (xs : List (Nat × Nat)) (hx : Path l p 0 xs) (w : World) (hr : RdS w A (strs l)) (hr2 : RdS w B (ints .i64 (toks xs))) :
    Calls Try.prog 30 #[.slice A l.length cap0, .slice B xs.length cap1, .string p] w fun e w' => e = .returned (.bool true) ∧ Kp (fun _ => False) w w' := by
  have hlen := path_len hd p xs 0 (Nat.zero_le _) hx
  have hf := hd.few
  have h := says_yes A B cap0 cap1 l p (xs.map (·.1)) w hr (by rw [nats_toks]; exact hr2) (by omega) (path_tok hd p xs 0 (Nat.zero_le _) hx) (by rw [path_cat hd p xs 0 (Nat.zero_le _) hx]; rfl) (by omega) (by rw [List.length_map]; omega)
  rw [List.length_map] at h
  exact h

/-- Tokens that lead from 0 to a place. -/
def PathTo (l : List ByteArray) (p : ByteArray) (at_ : Nat) (xs : List (Nat × Nat)) : Prop := ∀ ys, Path l p at_ ys → Path l p 0 (xs ++ ys)
theorem PathTo.step {l : List ByteArray} {p : ByteArray} {at_ : Nat} {xs : List (Nat × Nat)} (h : PathTo l p at_ xs) (hlt : at_ < p.size) (x : Nat × Nat) (hx : x ∈ stepsM l p at_) : PathTo l p (at_ + x.2) (xs ++ [x]) := by
  intro ys hy
  rw [List.append_assoc]
  exact h ([x] ++ ys) ⟨hlt, hx, hy⟩
theorem PathTo.done {l : List ByteArray} {p : ByteArray} {xs : List (Nat × Nat)} (h : PathTo l p p.size xs) : Path l p 0 xs := by
  have := h [] rfl
  rwa [List.append_nil] at this

theorem pathCost_bd (xs : List (Nat × Nat)) : (pathCost xs).2 ≤ 40 * xs.length := by
  unfold pathCost
  induction xs with
  | nil => simp
  | cons x xs ih =>
    have := wt_bd x.1
    simp only [List.map_cons, List.sum_cons, List.length_cons] at *
    omega
/-- A pick by number. -/
theorem pick_bd (x : Int) (n : Nat) : -(n : Int) ≤ x.tmod ((n : Int) + 1) ∧ x.tmod ((n : Int) + 1) ≤ n := by
  have h1 := Int.lt_tmod_of_pos x (b := (n : Int) + 1) (by omega)
  have h2 := Int.tmod_lt_of_pos x (b := (n : Int) + 1) (by omega)
  omega

set_option maxRecDepth 100000 in
set_option maxHeartbeats 16000000 in
theorem bestLeast_any (A1 A4 : Option Addr) (cap1 cap4 : Nat) (l : List ByteArray) (b : ByteArray) (window : Int) (pk : List Int) (w : World) (hr1 : RdS w A1 (strs l)) (hr4 : RdS w A4 (ints .i64 pk))
    (hl : l.length ≤ 140737488355328) (hs : ∀ s, s ∈ l → s.size ≤ 140737488351232) (hb : b.size ≤ 140737488351232) (hpk : pk.length ≤ 9223372036854775807) :
    Calls Try.prog 6 #[.slice A1 l.length cap1, .string b, .int .i64 window, .slice A4 pk.length cap4] w fun e w' => e = .returned (.bool true) ∧ Kp (fun _ => False) w w' := by
  have HR1 := Lib.hid hr1
  have HR4 := Lib.hid hr4
  have HS := Lib.hid hs
  clear hr1 hr4 hs
  by_cases hg : givenB l b
  · have HG := Lib.hid hg
    by_cases hw1 : window < 1
    · have hb4 : b.size ≤ 400 := hg.2.1
      clear hg
      go_enter Try.func6, Try.ntmps6
      go_wp2_with fail
      refine (dict_yes A1 cap1 l b w HR1.out hl HS.out hb HG.out).mono ?_
      rintro e w1 ⟨g, rfl, hgl, hD, hk⟩
      have HK := Lib.hid hk
      clear hgl hD hk
      go_wp2_with fail
      refine (bestAlive w1).mono ?_
      rintro e w2 ⟨rfl, hk⟩
      have HK2 := Lib.hid (HK.out.trans hk (fun _ h => .inl h))
      clear hk
      go_wp2_with fail
      go_ret
      exact ⟨rfl, HK2.out⟩
    · by_cases hw2 : 1024 < window
      · have hb4 : b.size ≤ 400 := hg.2.1
        clear hg
        go_enter Try.func6, Try.ntmps6
        go_wp2_with fail
        refine (dict_yes A1 cap1 l b w HR1.out hl HS.out hb HG.out).mono ?_
        rintro e w1 ⟨g, rfl, hgl, hD, hk⟩
        have HK := Lib.hid hk
        clear hgl hD hk
        go_wp2_with fail
        refine (bestAlive w1).mono ?_
        rintro e w2 ⟨rfl, hk⟩
        have HK2 := Lib.hid (HK.out.trans hk (fun _ h => .inl h))
        clear hk
        go_wp2_with fail
        go_ret
        exact ⟨rfl, HK2.out⟩
      · obtain ⟨wn, rfl⟩ := Int.eq_ofNat_of_zero_le (show (0 : Int) ≤ window by omega)
        have hd : DictOk l := hg.2.2.ok
        have HO := Lib.hid hd
        have hb4 : b.size ≤ 400 := hg.2.1
        have hfew := hd.few
        clear hg hd hb
        go_enter Try.func6, Try.ntmps6
        go_wp2_with fail
        refine (dict_yes A1 cap1 l b w HR1.out hl HS.out (by omega) HG.out).mono ?_
        rintro e w1 ⟨g, rfl, hgl, hD, hk⟩
        have HD := Lib.hid hD
        have HK := Lib.hid hk
        clear hgl hD hk
        go_wp2_with fail
        refine (bestAlive w1).mono ?_
        rintro e w2 ⟨rfl, hk⟩
        have HD2 := Lib.hid (HD.out.kp hk)
        have HK2 := Lib.hid (HK.out.trans hk (fun _ h => .inl h))
        clear hk HD HK
        go_wp2_with fail
        refine (bparse_any g l b wn w2 HD2.out HO.out (by omega) (by omega) (by omega)).mono ?_
        rintro e w3 ⟨va, rfl, ho, hk⟩
        obtain ⟨Aa, capa, rfl⟩ := own_slice ho
        have HA := Lib.hid ho
        have HD3 := Lib.hid (HD2.out.kp hk)
        have HK3 := Lib.hid (HK2.out.trans hk (fun _ h => .inl h))
        clear ho hk HD2 HK2
        go_wp2_with fail
        go_loopw [12, 13] (fun v i wr => ∃ (fr : Nat) (acc : List (Nat × Nat)), i = .int .i64 fr ∧ fr ≤ b.size + wn ∧ ∃ v2, v2 = v ∧ acc.length ≤ fr ∧ acc.length ≤ b.size ∧ Hid (∃ f, bestP l b wn = acc ++ bestM l wn f (b.extract fr b.size) ∧ b.size - fr ≤ f) ∧ Hid (wr.ownsRow w3.heap.size 3 1 v2 acc.length (ints .i64 (toks acc))) ∧ Hid (Kp (fun _ => False) w3 wr)) (fun _ i _ => b.size - (intOf i).toNat)
        case atStart =>
          refine ⟨0, [], rfl, Nat.zero_le _, _, rfl, Nat.zero_le _, Nat.zero_le _, ⟨b.size, ?_, by omega⟩, World.ownsRow_nil _ _ _ _, Kp.refl _ _⟩
          unfold bestP
          simp
        case round =>
          obtain ⟨fr, acc, rfl, hfr, vj, rfl, hacc, hacc2, HB, HJ, HKr⟩ := hrel
          obtain ⟨Aj, capj, rfl⟩ := own_slice HJ.out
          by_cases hlt : fr < b.size
          · obtain ⟨p, HP⟩ : ∃ p, Hid (p = b.extract fr (min (fr + wn) b.size)) := ⟨_, Lib.hid rfl⟩
            have hps : p.size = min (fr + wn) b.size - fr := by rw [HP.out, extract_size _ _ _ (Nat.min_le_right _ _)]
            have hp1 : 1 ≤ p.size := by omega
            have hp2 : p.size ≤ 400 := by omega
            have hp3 : fr + p.size ≤ b.size := by omega
            have hp4 : p.size ≤ wn := by omega
            have hwn : 1 ≤ wn := by omega
            have HB1 : Hid (∃ f, bestP l b wn = (acc ++ pathM l p) ++ bestM l wn f (b.extract (fr + wn) b.size) ∧ b.size - (fr + wn) ≤ f) := by
              obtain ⟨f, h1, h2⟩ := HB.out
              obtain ⟨f', h3, h4⟩ := bestM_piece l wn b f fr hlt h2
              refine Lib.hid ⟨f', ?_, by omega⟩
              rw [h1, h3, ← HP.out, List.append_assoc]
            have HPM := Lib.hid (pathM_ok HO.out p (by omega))
            have hpl := path_len HO.out p (pathM l p) 0 (Nat.zero_le _) HPM.out.1
            have HPW := Lib.hid (bestP_whole l p hp1)
            clear hps HB
            go_upto_region 11 with fail
            go_cut [14] (fun v wx => v = .string p ∧ wr = wx)
            case first =>
              by_cases hle : fr + wn ≤ b.size
              · have E : Hid (b.extract fr (fr + wn) = p) := by
                  refine Lib.hid ?_
                  rw [HP.out, Nat.min_eq_left hle]
                have e2 : ((fr : Int) + wn).toNat = fr + wn := by omega
                go_wp2_with fail
                go_meet
                exact ⟨by rw [E.out], rfl⟩
              · have E : Hid (b.extract fr b.size = p) := by
                  refine Lib.hid ?_
                  rw [HP.out, Nat.min_eq_right (by omega)]
                go_wp2_with fail
                go_meet
                exact ⟨by rw [E.out], rfl⟩
            case rest =>
              obtain ⟨rfl, rfl⟩ := hcut
              clear HP
              go_wp2_with fail
              have hbp := bparse_any g l p p.size wr (HD3.out.kp HKr.out) HO.out (by omega) hp1 (by omega)
              rw [HPW.out] at hbp
              refine hbp.mono ?_
              clear hbp HPW
              rintro e w4 ⟨vp, rfl, ho, hk⟩
              obtain ⟨Ap, capp, rfl⟩ := own_slice ho
              have HJ4 := Lib.hid (hk.own HJ.out (fun _ _ h => h))
              have HK4 := Lib.hid (HKr.out.trans hk (fun _ h => .inl h))
              have HP4 := Lib.hid ho
              have HNJ : Hid (∀ i, (Value.slice Aj acc.length capj).ownBlock = some i → i < wr.heap.size) := Lib.hid (fun i hi => (own_lt HJ.out hi).2)
              clear ho hk
              go_upto_block 2 with (at_builtin; refine appN w3.heap.size rfl _ _ 30 3 (.int .i64 0) 1 8 rfl Try.underlying30 info_int2 rfl (by decide) (by decide) (.slice Aj acc.length capj) acc.length (ints .i64 (toks acc)) Ap (pathM l p).length capp (ints .i64 (toks (pathM l p))) rfl rfl (own_nil HP4.out) (RdS.own HP4.out) (by rw [ints_len, toks_len, Nat.mul_one]) (ints_one _ _) HJ4.out HK4.out.size (by omega) ?_; intro v5 w5 hown hgrow hfresh; obtain ⟨Ak, capk, rfl⟩ := own_slice hown; have HJ5 := Lib.hid hown; have HG5 := Lib.hid hgrow; clear hown hgrow hfresh)
              have HK5 : Hid (Kp (fun _ => False) w3 w5) := Lib.hid (HK4.out.grown HG5.out (fun i hi => .inr (own_lt HJ4.out hi).1))
              have HP5 : Hid (w5.ownsRow wr.heap.size 3 1 (.slice Ap (pathM l p).length capp) (pathM l p).length (ints .i64 (toks (pathM l p)))) := by
                have hkk : Kp (fun i => (Value.slice Aj acc.length capj).ownBlock = some i) w4 w5 := (Kp.refl _ w4).grown HG5.out (fun k hk => .inl hk)
                refine Lib.hid (hkk.own HP4.out (fun k hk h => ?_))
                have h1 := (own_lt HP4.out hk).1
                have h2 := HNJ.out k h
                omega
              have HR5 : Hid (RdS w5 A1 (strs l)) := Lib.hid (HR1.out.kp (HK3.out.trans HK5.out (fun _ h => .inl h)) (fun _ _ _ h => h))
              have HR5p : Hid (RdS w5 A4 (ints .i64 pk)) := Lib.hid (HR4.out.kp (HK3.out.trans HK5.out (fun _ h => .inl h)) (fun _ _ _ h => h))
              clear HG5 HP4 HJ4 HK4 HNJ
              go_cut [16] (fun v wx => ∃ (xs : List (Nat × Nat)) (An : Option Addr) (capn : Nat), v = .slice An xs.length capn ∧ Hid (Path l p 0 xs) ∧ Hid (RdS wx An (ints .i64 (toks xs))) ∧ Hid (Kp (fun _ => False) w5 wx))
              case first =>
                --[any
                go_wp2_with fail
                go_loopw [16, 17, 18] (fun v a i wq => ∃ (at_ ii : Nat) (xs : List (Nat × Nat)), at_ ≤ p.size ∧ a = .int .i64 at_ ∧ i = .int .i64 ii ∧ ii ≤ at_ ∧ xs.length ≤ at_ ∧ ∃ v2, v2 = v ∧ Hid (PathTo l p at_ xs) ∧ Hid (wq.ownsRow w5.heap.size 3 1 v2 xs.length (ints .i64 (toks xs))) ∧ Hid (Kp (fun _ => False) w5 wq)) (fun _ a _ _ => p.size - (intOf a).toNat)
                case atStart => exact ⟨0, 0, [], Nat.zero_le _, rfl, rfl, Nat.le_refl _, Nat.le_refl _, _, rfl, fun ys h => h, World.ownsRow_nil _ _ _ _, Kp.refl _ _⟩
                case round =>
                  obtain ⟨at_, ii, xs, hat, rfl, rfl, hii, hxl, vn, rfl, HPT, HN, HKq⟩ := hrel
                  obtain ⟨An, capn, rfl⟩ := own_slice HN.out
                  by_cases hal : at_ < p.size
                  · go_wp2_with fail
                    have hst := stands_any A1 cap1 l p at_ _ (HR5.out.kp HKq.out (fun _ _ _ h => h)) (by omega) (by omega) (by omega)
                    refine hst.mono ?_
                    clear hst
                    rintro e w6 ⟨vs, rfl, ho, hk⟩
                    obtain ⟨S, HSd⟩ : ∃ S, Hid (S = stands l p at_) := ⟨_, Lib.hid rfl⟩
                    rw [← HSd.out] at ho
                    have hs40 : S.length ≤ 40 := by
                      rw [HSd.out]
                      unfold stands
                      have := standsTo_len l p at_ (min 40 (p.size - at_))
                      omega
                    obtain ⟨As, caps, rfl⟩ := own_slice ho
                    have HSo := Lib.hid ho
                    have HN6 := Lib.hid (hk.own HN.out (fun _ _ h => h))
                    have HNL : Hid (∀ i, (Value.slice An xs.length capn).ownBlock = some i → i < _) := Lib.hid (fun i hi => (own_lt HN.out hi).2)
                    have HK6 := Lib.hid (HKq.out.trans hk (fun _ h => .inl h))
                    clear ho hk HN
                    go_upto_if 91 with fail
                    go_cut [20] (fun v wx => ∃ kk : Nat, kk ≤ S.length ∧ v = .int .i64 kk ∧ w6 = wx)
                    case first =>
                      by_cases hip : ii < pk.length
                      · obtain ⟨x, bb, o, hx, rfl, hc⟩ := HR5p.out.at_ hip
                        have hc := HK6.out.cell hc (fun h => h)
                        obtain ⟨hp1, hp2⟩ := pick_bd x S.length
                        clear hx
                        go_wp2_with fail
                        go_meet
                        generalize x.tmod ((S.length : Int) + 1) = T at *
                        have hq1 := Int.emod_nonneg (T + S.length + 1) (b := (S.length : Int) + 1) (by omega)
                        have hq2 := Int.emod_lt_of_pos (T + S.length + 1) (b := (S.length : Int) + 1) (by omega)
                        refine ⟨((T + S.length + 1) % ((S.length : Int) + 1)).toNat, by omega, ?_, rfl⟩
                        rw [Int.toNat_of_nonneg hq1]
                      · go_wp2_with fail
                        go_meet
                        exact ⟨S.length, Nat.le_refl _, rfl, rfl⟩
                    case rest =>
                      obtain ⟨kk, hkk, rfl, rfl⟩ := hcut
                      by_cases hke : kk = S.length
                      · subst hke
                        have HWB : Hid (wrap64 (p[at_].toNat : Int) = (byteAt p at_ : Int)) := wrap_byte p at_ hal
                        go_wp2_with (at_builtin; refine app1 w5.heap.size rfl _ _ 30 3 (.int .i64 0) 8 rfl Try.underlying30 info_int2 rfl (by decide) (.slice An xs.length capn) _ _ (.int .i64 (wrap64 (p[at_].toNat : Int))) rfl rfl rfl HN6.out HK6.out.size (by omega) ?_; intro v7 w7 hown hgrow hfresh; have HG := Lib.hid hgrow; have HO7 := Lib.hid hown; clear hgrow hown hfresh)
                        refine ⟨⟨at_ + 1, ii + 1, xs ++ [(byteAt p at_, 1)], by omega, by simp, by simp, by omega, by simp; omega, _, rfl, ?_, ?_, HK6.out.grown HG.out (fun i hi => .inr (own_lt HN6.out hi).1)⟩, by simp only [intOf]; omega⟩
                        · exact HPT.out.step hal (byteAt p at_, 1) (by unfold stepsM; simp)
                        · refine Lib.hid ?_
                          have := HO7.out
                          rw [HWB.out] at this
                          simpa [ints, toks] using this
                      · have hkl : kk < S.length := by omega
                        obtain ⟨y, bb, o, hy, rfl, hc⟩ := (RdS.own HSo.out).at_ hkl
                        have hym : y ∈ stands l p at_ := by rw [← HSd.out]; exact List.mem_of_getElem? hy
                        have hch : (tokenN l p at_ y.toNat, y.toNat) ∈ stepsM l p at_ := by
                          refine (mem_choices HO.out p at_ (by omega) _).1 ?_
                          unfold choicesM
                          exact List.mem_append_left _ (List.mem_map.2 ⟨y, hym, rfl⟩)
                        obtain ⟨m, m1, m2, rfl, _⟩ := (mem_standsTo l p at_ _ y).1 hym
                        rw [Int.toNat_natCast] at hch
                        have hat2 : at_ + m ≤ p.size := by omega
                        have htk := (step_mng HO.out p at_ hal _ hch).2.2.2.1
                        have HCH := Lib.hid hch
                        have HCS : Hid (∀ w7, w6.grownBy w7 (Value.slice An xs.length capn).ownBlock → w7.cell? ⟨bb, o + kk, none⟩ = some (.int .i64 (m : Int))) := by
                          refine Lib.hid fun w7 hg => ?_
                          refine (World.cell?_of_block (hg.block bb (World.block_lt_of_cell? w6 ⟨bb, o + kk, none⟩ hc) (fun h => ?_))).trans hc
                          have h1 := (own_lt HSo.out (k := bb) rfl).1
                          have h2 := HNL.out bb h.symm
                          omega
                        obtain ⟨tk, HTK⟩ : ∃ tk, Hid (tk = tokenN l p at_ m) := ⟨_, Lib.hid rfl⟩
                        clear hy hym hch
                        go_wp2_with fail
                        refine (token_any A1 cap1 l p at_ m _ (HR5.out.kp HK6.out (fun _ _ _ h => h)) (by omega) (by omega) hal hat2).mono ?_
                        rintro e w' ⟨rfl, rfl⟩
                        rw [← HTK.out]
                        rw [← HTK.out] at htk HCH
                        go_wp2_with (at_builtin; refine app1 w5.heap.size rfl _ _ 30 3 (.int .i64 0) 8 rfl Try.underlying30 info_int2 rfl (by decide) (.slice An xs.length capn) _ _ (.int .i64 (tk : Int)) rfl rfl rfl HN6.out HK6.out.size (by omega) ?_; intro v7 w7 hown hgrow hfresh; have HG := Lib.hid hgrow; have HO7 := Lib.hid hown; clear hgrow hown hfresh; have hc7 : w7.cell? ⟨bb, o + kk, none⟩ = some (.int .i64 (m : Int)) := HCS.out w7 HG.out)
                        refine ⟨⟨at_ + m, ii + 1, xs ++ [(tk, m)], by omega, by simp, by simp, by omega, by simp; omega, _, rfl, ?_, ?_, HK6.out.grown HG.out (fun i hi => .inr (own_lt HN6.out hi).1)⟩, by simp only [intOf]; omega⟩
                        · exact HPT.out.step hal (tk, m) HCH.out
                        · refine Lib.hid ?_
                          simpa [ints, toks] using HO7.out
                  · obtain rfl : at_ = p.size := by omega
                    go_wp2_with fail
                    go_meet
                    exact ⟨xs, An, capn, rfl, HPT.out.done, RdS.own HN.out, HKq.out⟩
                --]any
              case rest =>
                obtain ⟨xs, An, capn, rfl, HXP, HXR, HK6⟩ := hcut
                --[rest
                obtain ⟨c1, HC1⟩ : ∃ c1, Hid (c1 = (pathCost (pathM l p)).1) := ⟨_, Lib.hid rfl⟩
                obtain ⟨c2, HC2⟩ : ∃ c2, Hid (c2 = (pathCost (pathM l p)).2) := ⟨_, Lib.hid rfl⟩
                have HPr := Lib.hid (RdS.own (HK6.out.own HP5.out (fun _ _ h => h)))
                go_wp2_with fail
                refine (sum_path HO.out p (by omega) Ap capp (pathM l p) HPM.out.1 _ HPr.out).mono ?_
                rintro e w7 ⟨rfl, hk⟩
                rw [← HC1.out, ← HC2.out]
                have HK7 := Lib.hid (HK6.out.trans hk (fun _ h => .inl h))
                have HX7 := Lib.hid (HXR.out.kp hk (fun _ _ _ h => h))
                clear hk HPr HXR HK6
                go_wp2_with fail
                refine (gparse_any g l p w7 (HD3.out.kp (HK5.out.trans HK7.out (fun _ h => .inl h))) HO.out (by omega)).mono ?_
                rintro e w8 ⟨vg, rfl, ho, hk⟩
                obtain ⟨Ag, capg, rfl⟩ := own_slice ho
                have HG8 := Lib.hid (RdS.own ho)
                have HK8 := Lib.hid (HK7.out.trans hk (fun _ h => .inl h))
                have HX8 := Lib.hid (HX7.out.kp hk (fun _ _ _ h => h))
                clear ho hk HK7 HX7
                go_wp2_with fail
                refine (fparse_any g l p w8 (HD3.out.kp (HK5.out.trans HK8.out (fun _ h => .inl h))) HO.out (by omega)).mono ?_
                rintro e w9 ⟨vf, rfl, ho, hk⟩
                obtain ⟨Af, capf, rfl⟩ := own_slice ho
                have HF9 := Lib.hid (RdS.own ho)
                have HK9 := Lib.hid (HK8.out.trans hk (fun _ h => .inl h))
                have HX9 := Lib.hid (HX8.out.kp hk (fun _ _ _ h => h))
                have HG9 := Lib.hid (HG8.out.kp hk (fun _ _ _ h => h))
                clear ho hk HK8 HX8 HG8
                go_wp2_with fail
                obtain ⟨gb, HGB⟩ : ∃ gb, Hid (gb = w9.heap.size) := ⟨_, Lib.hid rfl⟩
                obtain ⟨wa, hwa⟩ : ∃ wa, wa = w9.alloc (.cells #[.slice An xs.length capn, .slice Ag (gpath l p).length capg, .slice Af (fpath l p).length capf] 30) := ⟨_, rfl⟩
                have hka : Kp (fun _ => False) w9 wa := by rw [hwa]; exact (Kp.refl _ w9).alloc _
                have hba : wa.heap[gb]? = some (.cells #[.slice An xs.length capn, .slice Ag (gpath l p).length capg, .slice Af (fpath l p).length capf] 30 (0, 0)) := by rw [hwa, HGB.out]; exact blk_new w9 _
                have HOTH : Hid (∀ k : Nat, k < 3 → ∃ (ys : List (Nat × Nat)) (Ay : Option Addr) (capy : Nat), wa.cell? ⟨gb, k, none⟩ = some (.slice Ay ys.length capy) ∧ Path l p 0 ys ∧ RdS wa Ay (ints .i64 (toks ys))) := by
                  refine Lib.hid fun k hk => ?_
                  match k, hk with
                  | 0, _ => exact ⟨xs, An, capn, (blk_cell hba 0).trans rfl, HXP.out, HX9.out.kp hka (fun _ _ _ h => h)⟩
                  | 1, _ => exact ⟨gpath l p, Ag, capg, (blk_cell hba 1).trans rfl, gpath_ok HO.out p, HG9.out.kp hka (fun _ _ _ h => h)⟩
                  | 2, _ => exact ⟨fpath l p, Af, capf, (blk_cell hba 2).trans rfl, fpath_ok HO.out p, HF9.out.kp hka (fun _ _ _ h => h)⟩
                have HKA := Lib.hid (HK9.out.trans hka (fun _ h => .inl h))
                rw [← HGB.out, ← hwa]
                clear hka hba hwa HX9 HG9 HF9 HK9
                go_loopw [149] (fun i wq => ∃ k : Nat, k ≤ 3 ∧ i = .int .i64 k ∧ Hid (Kp (fun _ => False) wa wq)) (fun i _ => 3 - (intOf i).toNat)
                case atStart => exact ⟨0, by omega, rfl, Kp.refl _ _⟩
                case round =>
                  obtain ⟨k, hk3, rfl, HKq⟩ := hrel
                  by_cases hkl : k < 3
                  · obtain ⟨ys, Ay, capy, hcy, hpy, hry⟩ := HOTH.out k hkl
                    have HKw := Lib.hid (HKA.out.trans HKq.out (fun _ h => .inl h))
                    have hcy := HKq.out.cell hcy (fun h => h)
                    have HPY := Lib.hid hpy
                    have HRY := Lib.hid (hry.kp HKq.out (fun _ _ _ h => h))
                    have hyl := path_len HO.out p ys 0 (Nat.zero_le _) hpy
                    clear hpy hry
                    go_wp2_with fail
                    refine (says_path HO.out p (by omega) A1 Ay cap1 capy ys HPY.out _ (HR5.out.kp HKw.out (fun _ _ _ h => h)) HRY.out).mono ?_
                    rintro e w10 ⟨rfl, hk⟩
                    have HK10 := Lib.hid (HKq.out.trans hk (fun _ h => .inl h))
                    have HRY2 := Lib.hid (HRY.out.kp hk (fun _ _ _ h => h))
                    clear hk hcy
                    go_wp2_with fail
                    refine (sum_path HO.out p (by omega) Ay capy ys HPY.out _ HRY2.out).mono ?_
                    rintro e w11 ⟨rfl, hk⟩
                    have HK11 := Lib.hid (HK10.out.trans hk (fun _ h => .inl h))
                    clear hk
                    obtain ⟨d1, HD1⟩ : ∃ d1, Hid (d1 = (pathCost ys).1) := ⟨_, Lib.hid rfl⟩
                    obtain ⟨d2, HDD2⟩ : ∃ d2, Hid (d2 = (pathCost ys).2) := ⟨_, Lib.hid rfl⟩
                    rw [← HD1.out, ← HDD2.out]
                    go_wp2_with fail
                    have hnl := opt_least HO.out p (by omega) ys 0 (Nat.zero_le _) HPY.out
                    rw [Nat.sub_zero, ← HPM.out.2] at hnl
                    have hb1 := pathCost_bd ys
                    have hb2 := pathCost_bd (pathM l p)
                    have hd1 : d1 = ys.length := HD1.out
                    have hc1 : c1 = (pathM l p).length := HC1.out
                    have hlb : ¬ (ys.length : Int) < ((pathM l p).length : Int) := by
                      intro h
                      apply hnl
                      left
                      show ys.length < (pathM l p).length
                      omega
                    have p53 : 2 ^ 53 = 9007199254740992 := by decide
                    have hls := less_wt d1 d2 c1 c2 false (by omega) (by rw [HDD2.out]; omega) (by omega) (by rw [HC2.out]; omega) (by
                      rw [eq_comm, decide_eq_false_iff_not, HD1.out, HDD2.out, HC1.out, HC2.out]
                      exact hnl) w11
                    refine hls.mono ?_
                    clear hls p53 hb1 hb2 hnl hd1 hc1
                    rintro e w12 ⟨rfl, rfl⟩
                    go_wp2_with fail
                    refine ⟨⟨k + 1, by omega, by simp, HK11.out⟩, by simp only [intOf]; omega⟩
                  · obtain rfl : k = 3 := by omega
                    have HKw := Lib.hid (HKA.out.trans HKq.out (fun _ h => .inl h))
                    go_wp2_with fail
                    refine (bcosts_any g l p _ (HD3.out.kp (HK5.out.trans HKw.out (fun _ h => .inl h))) HO.out (by omega)).mono ?_
                    rintro e w13 ⟨gc, hgc, rfl, ho, hk⟩
                    have hb2 := pathCost_bd (pathM l p)
                    have hcc : (costs (opt l p p.size))[0]? = some (.complex .f64 (fb c1) (fb c2)) := by
                      unfold costs
                      rw [List.getElem?_map]
                      have hl := opt_len l p p.size
                      have h0 := HPM.out.2
                      rw [List.getD_eq_getElem?_getD, List.getElem?_eq_getElem (show 0 < (opt l p p.size).length by omega)] at h0
                      rw [List.getElem?_eq_getElem (show 0 < (opt l p p.size).length by omega), Option.map_some]
                      simp only [Option.getD_some] at h0
                      rw [← h0, HC1.out, HC2.out]
                      rfl
                    have hc0 := (own_cellS ho 0 _ hcc).1
                    have hc1 : c1 = (pathM l p).length := HC1.out
                    have p53 : 2 ^ 53 = 9007199254740992 := by decide
                    have hE1 := ord_eq c1 c1 (by omega) (by omega)
                    have hE2 := ord_eq c2 c2 (by rw [HC2.out]; omega) (by rw [HC2.out]; omega)
                    rw [decide_eq_true rfl] at hE1 hE2
                    have HKe := Lib.hid (HKw.out.trans hk (fun _ h => .inl h))
                    clear ho hk hcc p53 hb2 hc1
                    go_wp2_with fail
                    refine ⟨⟨fr + wn, acc ++ pathM l p, by simp, by omega, _, rfl, by simp; omega, by simp; omega, HB1.out, ?_, HK5.out.trans HKe.out (fun _ h => .inl h)⟩, by simp only [intOf]; omega⟩
                    refine Lib.hid ?_
                    have := HKe.out.own HJ5.out (fun _ _ h => h)
                    rw [List.length_append]
                    simpa [ints, toks] using this
                --]rest
          · go_wp2_with fail
            have e1 : bestP l b wn = acc := by
              obtain ⟨f, h1, h2⟩ := HB.out
              rw [bestM_end l wn b f fr (by omega), List.append_nil] at h1
              exact h1
            have ha := RdS.own (HKr.out.own HA.out (fun _ _ h => h))
            have hsame := sameInts_any Aa Aj capa capj (toks (bestP l b wn)) (toks acc) wr ha (RdS.own HJ.out) (by rw [toks_len, e1]; omega) (by rw [toks_len]; omega)
            rw [toks_len, toks_len, e1, show decide (toks acc = toks acc) = true by simp] at hsame
            rw [e1]
            refine hsame.mono ?_
            clear hsame ha e1
            rintro e w' ⟨rfl, m, rfl⟩
            go_wp2_with fail
            go_ret
            exact ⟨rfl, (HK3.out.trans HKr.out (fun _ h => .inl h)).drewN _⟩
  · have HG := Lib.hid hg
    clear hg
    go_enter Try.func6, Try.ntmps6
    go_wp2_with fail
    refine (dict_no A1 cap1 l b w HR1.out hl HS.out hb HG.out).mono ?_
    rintro e w1 ⟨rfl, hk⟩
    have HK := Lib.hid hk
    clear hk
    go_wp2_with fail
    refine (bestAlive w1).mono ?_
    rintro e w2 ⟨rfl, hk⟩
    have HK2 := Lib.hid (HK.out.trans hk (fun _ h => .inl h))
    clear hk
    go_wp2_with fail
    go_ret
    exact ⟨rfl, HK2.out⟩

/-- As the row wants it. -/
theorem bestLeast_row (A1 : Option Addr) (cap1 : Nat) (l : List ByteArray) (b : ByteArray) (window : Int) (A4 : Option Addr) (cap4 : Nat) (pk : List Int) (w : World) (hr1 : RdS w A1 (strs l))
    (hl : l.length ≤ 140737488355328) (hs : ∀ s, s ∈ l → s.size ≤ 140737488351232) (hb : b.size ≤ 140737488351232) (hwf : (Lit.int .i64 window).wf = true) (hr4 : RdS w A4 (ints .i64 pk)) (hpk : pk.length ≤ 9223372036854775807) :
    Calls Try.prog 6 #[.slice A1 l.length cap1, .string b, .int .i64 window, .slice A4 pk.length cap4] w fun e w' => e = .returned (.bool true) ∧ Kp (fun _ => False) w w' :=
  bestLeast_any A1 A4 cap1 cap4 l b window pk w hr1 hr4 hl hs hb hpk

end Go.Proofs.Ytbhjckhhmcfpfaa

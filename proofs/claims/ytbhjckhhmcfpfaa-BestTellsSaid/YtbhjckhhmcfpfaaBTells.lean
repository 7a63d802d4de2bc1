/- BestTells: the walk of the law's own function. -/
import Derived.Test.YtbhjckhhmcfpfaaBookEnd
namespace Go.Proofs.Ytbhjckhhmcfpfaa
open Go.RowKit
open Fb (fb fb_add fb_order)
set_option linter.unusedVariables false
set_option linter.unusedSimpArgs false

theorem ints_good (xs : List Int) : ∀ x, x ∈ ints .i64 xs → GoodInts x := by
  intro x hx
  obtain ⟨n, _, rfl⟩ := List.mem_map.1 hx
  exact ⟨n, rfl⟩
theorem costs_good {l : List ByteArray} (hd : DictOk l) (b : ByteArray) (hb : b.size ≤ 2048) : ∀ x, x ∈ costs (opt l b b.size) → GoodCosts x := by
  intro x hx
  obtain ⟨c, hc, rfl⟩ := List.mem_map.1 hx
  have hs := opt_small hd b hb b.size (Nat.le_refl _) c hc
  have p53 : 2 ^ 53 = 9007199254740992 := by decide
  refine ⟨_, _, rfl, ?_, ?_⟩
  · rw [ord_eq _ _ (by omega) (by omega)]
    simp
  · rw [ord_eq _ _ (by omega) (by omega)]
    simp

set_option maxRecDepth 100000 in
set_option maxHeartbeats 16000000 in
theorem bestTells_any (A1 : Option Addr) (cap1 : Nat) (l : List ByteArray) (b : ByteArray) (window : Int) (w : World) (hr1 : RdS w A1 (strs l))
    (hl : l.length ≤ 140737488355328) (hs : ∀ s, s ∈ l → s.size ≤ 140737488351232) (hb : b.size ≤ 140737488351232) (hwf : (Lit.int .i64 window).wf = true) :
    Calls Try.prog 5 #[.slice A1 l.length cap1, .string b, .int .i64 window] w fun e w' => e = .returned (.bool true) ∧ Kp (fun _ => False) w w' := by
  have HR1 := Lib.hid hr1
  have HS := Lib.hid hs
  clear hr1 hs
  by_cases hg : givenB l b
  · have HG := Lib.hid hg
    have hd : DictOk l := hg.2.2.ok
    have HO := Lib.hid hd
    have hb4 : b.size ≤ 400 := hg.2.1
    have hfew := hd.few
    clear hg hd hb
    go_enter Try.func5, Try.ntmps5
    go_wp2_with fail
    refine (dict_yes A1 cap1 l b w HR1.out hl HS.out (by omega) HG.out).mono ?_
    rintro e w1 ⟨g, rfl, hgl, hD, hk⟩
    have HD := Lib.hid hD
    have HK := Lib.hid hk
    clear hgl hD hk
    go_wp2_with fail
    refine (bestAlive w1).mono ?_
    rintro e w2 ⟨rfl, hk⟩
    have HD2 := Lib.hid (HD.out.kp hk)
    have HK2 := Lib.hid (HK.out.trans hk (fun _ h => .inl h))
    clear hk HD HK
    obtain ⟨P, HP⟩ : ∃ P, Hid (P = PW l b window) := ⟨_, Lib.hid rfl⟩
    have hPl : P.length ≤ 400 := by have := PW_len HO.out b window (by omega); rw [HP.out]; omega
    obtain ⟨X, HX⟩ : ∃ X, Hid (X = ints .i64 (toks P)) := ⟨_, Lib.hid rfl⟩
    have HXl : Hid (X.length = P.length) := Lib.hid (by rw [HX.out, ints_len, toks_len])
    have HXg : Hid (∀ x, x ∈ X → GoodInts x) := Lib.hid (by rw [HX.out]; exact ints_good _)
    obtain ⟨Y, HY⟩ : ∃ Y, Hid (Y = costs (opt l b b.size)) := ⟨_, Lib.hid rfl⟩
    have HYl : Hid (Y.length = b.size + 1) := Lib.hid (by rw [HY.out]; unfold costs; rw [List.length_map, opt_len])
    have HYg : Hid (∀ x, x ∈ Y → GoodCosts x) := Lib.hid (by rw [HY.out]; exact costs_good HO.out b (by omega))
    have HPar : Hid (∀ wx, DICT wx g l → Calls Try.prog 22 #[.pointer (some ⟨g, 0, none⟩), .string b, .int .i64 window] wx fun e w' => ∃ v, e = .returned v ∧ w'.ownsRow wx.heap.size 3 1 v P.length X ∧ Kp (fun _ => False) wx w') := by
      refine Lib.hid fun wx hx => ?_
      have h := bparse_both g l b window wx hx HO.out (by omega)
      rw [← HP.out, ← HX.out] at h
      exact h
    have HCos : Hid (∀ wx, DICT wx g l → Calls Try.prog 23 #[.pointer (some ⟨g, 0, none⟩), .string b] wx fun e w' => ∃ gc, wx.heap.size ≤ gc ∧ e = .returned (.slice (some ⟨gc, 0, none⟩) (b.size + 1) (b.size + 1)) ∧
      w'.ownsRow wx.heap.size 64 1 (.slice (some ⟨gc, 0, none⟩) (b.size + 1) (b.size + 1)) (b.size + 1) Y ∧ Kp (fun _ => False) wx w') := by
      refine Lib.hid fun wx hx => ?_
      have h := bcosts_any g l b wx hx HO.out (by omega)
      rw [← HY.out] at h
      exact h
    have HKI : Hid (∀ (B gB : Nat) (cs : Array Value) (I W : Value) (rs ws : List Value) (Ap : Option Addr) (cp b0 : Nat) (wx : World), BkInts wx B gB cs I W rs ws → B ≤ gB → wx.ownsRow b0 3 1 (.slice Ap P.length cp) P.length X → rs.length ≤ 100 → ws.length ≤ 100 →
        Calls Try.prog 24 #[.pointer (some ⟨gB, 0, none⟩), .slice Ap P.length cp] wx fun e w' => ∃ I' W' q, e = .returned (.tuple #[]) ∧
      BkInts w' B gB ((cs.setIfInBounds 0 I').setIfInBounds 1 W') I' W' (rs ++ [.slice Ap P.length cp]) (ws ++ [q]) ∧ w'.ownsRow wx.heap.size 3 1 q P.length X ∧ Kp (fun i => i = gB ∨ I.ownBlock = some i ∨ W.ownBlock = some i) wx w') := by
      refine Lib.hid fun B gB cs I W rs ws Ap cp b0 wx h1 h2 h3 h4 h5 => ?_
      have h := bookInts_any B gB cs I W rs ws Ap cp X b0 wx h1 h2 (by rw [HXl.out]; exact h3) (by rw [HXl.out]; omega) HXg.out h4 h5
      rw [HXl.out] at h
      exact h
    have HKC : Hid (∀ (B gB : Nat) (cs : Array Value) (I W : Value) (rs ws : List Value) (Ap : Option Addr) (cp b0 : Nat) (wx : World), BkCosts wx B gB cs I W rs ws → B ≤ gB → wx.ownsRow b0 64 1 (.slice Ap (b.size + 1) cp) (b.size + 1) Y → rs.length ≤ 100 → ws.length ≤ 100 →
        Calls Try.prog 25 #[.pointer (some ⟨gB, 0, none⟩), .slice Ap (b.size + 1) cp] wx fun e w' => ∃ I' W' q, e = .returned (.tuple #[]) ∧
      BkCosts w' B gB ((cs.setIfInBounds 6 I').setIfInBounds 7 W') I' W' (rs ++ [.slice Ap (b.size + 1) cp]) (ws ++ [q]) ∧ w'.ownsRow wx.heap.size 64 1 q (b.size + 1) Y ∧ Kp (fun i => i = gB ∨ I.ownBlock = some i ∨ W.ownBlock = some i) wx w') := by
      refine Lib.hid fun B gB cs I W rs ws Ap cp b0 wx h1 h2 h3 h4 h5 => ?_
      have h := bookCosts_any B gB cs I W rs ws Ap cp Y b0 wx h1 h2 (by rw [HYl.out]; exact h3) (by rw [HYl.out]; omega) HYg.out h4 h5
      rw [HYl.out] at h
      exact h
    obtain ⟨B, HB⟩ : ∃ B, Hid (B = w2.heap.size) := ⟨_, Lib.hid rfl⟩
    go_wp2_with fail
    refine (HPar.out w2 HD2.out).mono ?_
    rintro e w3 ⟨vp, rfl, ho, hk⟩
    obtain ⟨Ap, cp, rfl⟩ := own_slice ho
    have H1 : Hid (w3.ownsRow B 3 1 (.slice Ap P.length cp) P.length X) := Lib.hid (by rw [HB.out]; exact ho)
    have HK := Lib.hid hk
    clear ho hk
    go_wp2_with fail
    refine (HCos.out w3 (HD2.out.kp HK.out)).mono ?_
    rintro e w4 ⟨gc, hgc, rfl, ho, hk⟩
    have C1 : Hid (w4.ownsRow B 64 1 (.slice (some ⟨gc, 0, none⟩) (b.size + 1) (b.size + 1)) (b.size + 1) Y) := Lib.hid (own_low ho (by rw [HB.out]; exact HK.out.size))
    have H1 := Lib.hid (hk.own H1.out (fun _ _ h => h))
    have HK := Lib.hid (HK.out.trans hk (fun _ h => h.elim))
    clear ho hk hgc
    go_wp2_with fail
    obtain ⟨gB, HGB⟩ : ∃ gB, Hid (gB = w4.heap.size) := ⟨_, Lib.hid rfl⟩
    obtain ⟨cs0, HCS0⟩ : ∃ cs0, Hid (cs0 = #[Value.slice none 0 0, .slice none 0 0, .slice none 0 0, .slice none 0 0, .slice none 0 0, .slice none 0 0, .slice none 0 0, .slice none 0 0, .slice none 0 0, .slice none 0 0]) := ⟨_, Lib.hid rfl⟩
    rw [← HCS0.out, ← HGB.out]
    obtain ⟨w5, hw5⟩ : ∃ w5, w5 = w4.alloc (.cells cs0 59) := ⟨_, rfl⟩
    have hk5 : Kp (fun _ => False) w4 w5 := by rw [hw5]; exact (Kp.refl _ w4).alloc _
    have hb5 : w5.heap[gB]? = some (.cells cs0 59 (0, 0)) := by rw [hw5, HGB.out]; exact blk_new w4 _
    have HBgB : Hid (B ≤ gB) := Lib.hid (by rw [HB.out, HGB.out]; exact HK.out.size)
    have HB5 : Hid (BkInts w5 B gB cs0 (.slice none 0 0) (.slice none 0 0) [] []) := Lib.hid ⟨hb5, by rw [HCS0.out]; rfl, by rw [HCS0.out]; rfl, World.ownsRow_nil _ _ _ _, World.ownsRow_nil _ _ _ _, fun k h => by simp [Value.ownBlock] at h⟩
    rw [← hw5]
    have H1 := Lib.hid (hk5.own H1.out (fun _ _ h => h))
    have C1 := Lib.hid (hk5.own C1.out (fun _ _ h => h))
    have HK := Lib.hid (HK.out.trans hk5 (fun _ h => h.elim))
    clear hk5 hb5 hw5
    have HSZ : ∀ wx : World, Kp (fun _ => False) w2 wx → B ≤ wx.heap.size := fun wx h => by rw [HB.out]; exact h.size
    have HSZ := Lib.hid HSZ
    refine (HKI.out B gB cs0 _ _ [] [] Ap cp B w5 HB5.out HBgB.out H1.out (by simp) (by simp)).mono ?_
    rintro e w6 ⟨I1, W1, q1, rfl, hbk, hq, hk⟩
    have HB6 := Lib.hid hbk
    have H1 := Lib.hid (own_off H1.out hk (fun b cur h => HB5.out.off h (by decide) (by decide)))
    have C1 := Lib.hid (own_off C1.out hk (fun b cur h => HB5.out.off h (by decide) (by decide)))
    have Q1 : Hid (w6.ownsRow B 3 1 q1 P.length X) := Lib.hid (own_low hq (HSZ.out _ HK.out))
    have HK := Lib.hid (HK.out.trans hk (fun i hi => .inr (by rw [← HB.out]; exact HB5.out.fresh HBgB.out hi)))
    clear hbk hq hk
    go_wp2_with fail
    refine (HPar.out w6 (HD2.out.kp HK.out)).mono ?_
    rintro e w7 ⟨vp, rfl, ho, hk⟩
    obtain ⟨Ap2, cp2, rfl⟩ := own_slice ho
    have HDI : Hid (∀ k, (Value.slice Ap P.length cp).ownBlock = some k → (Value.slice Ap2 P.length cp2).ownBlock ≠ some k) := by
      refine Lib.hid fun k h1 h2 => ?_
      have h3 := (own_lt H1.out h1).2
      have h4 := (own_lt ho h2).1
      omega
    have H2 : Hid (w7.ownsRow B 3 1 (.slice Ap2 P.length cp2) P.length X) := Lib.hid (own_low ho (HSZ.out _ HK.out))
    have H1 := Lib.hid (hk.own H1.out (fun _ _ h => h))
    have C1 := Lib.hid (hk.own C1.out (fun _ _ h => h))
    have Q1 := Lib.hid (hk.own Q1.out (fun _ _ h => h))
    have HB7 := Lib.hid (HB6.out.kp hk)
    have HK := Lib.hid (HK.out.trans hk (fun _ h => h.elim))
    clear ho hk
    go_wp2_with fail
    refine (HKI.out B gB _ _ _ _ _ Ap2 cp2 B w7 HB7.out HBgB.out H2.out (by simp) (by simp)).mono ?_
    rintro e w8 ⟨I2, W2, q2, rfl, hbk, hq, hk⟩
    have OI : Hid (w8.ownsRow B 30 1 I2 2 [.slice Ap P.length cp, .slice Ap2 P.length cp2]) := Lib.hid hbk.rI
    have OW : Hid (w8.ownsRow B 30 1 W2 2 [q1, q2]) := Lib.hid hbk.rW
    have HC8 : Hid (BkCosts w8 B gB _ (.slice none 0 0) (.slice none 0 0) [] []) := Lib.hid ⟨hbk.book, by rw [HCS0.out]; simp, by rw [HCS0.out]; simp, World.ownsRow_nil _ _ _ _, World.ownsRow_nil _ _ _ _, fun k h => by simp [Value.ownBlock] at h⟩
    have H1 := Lib.hid (own_off H1.out hk (fun b cur h => HB7.out.off h (by decide) (by decide)))
    have H2 := Lib.hid (own_off H2.out hk (fun b cur h => HB7.out.off h (by decide) (by decide)))
    have C1 := Lib.hid (own_off C1.out hk (fun b cur h => HB7.out.off h (by decide) (by decide)))
    have Q1 := Lib.hid (own_off Q1.out hk (fun b cur h => HB7.out.off h (by decide) (by decide)))
    have Q2 : Hid (w8.ownsRow B 3 1 q2 P.length X) := Lib.hid (own_low hq (HSZ.out _ HK.out))
    have HK := Lib.hid (HK.out.trans hk (fun i hi => .inr (by rw [← HB.out]; exact HB7.out.fresh HBgB.out hi)))
    clear hbk hq hk
    go_wp2_with fail
    refine (HKC.out B gB _ _ _ [] [] (some ⟨gc, 0, none⟩) (b.size + 1) B w8 HC8.out HBgB.out C1.out (by simp) (by simp)).mono ?_
    rintro e w9 ⟨I3, W3, r1, rfl, hbk, hq, hk⟩
    have HC9 := Lib.hid hbk
    have OI := Lib.hid (own_off OI.out hk (fun b cur h => HC8.out.off h (by decide) (by decide)))
    have OW := Lib.hid (own_off OW.out hk (fun b cur h => HC8.out.off h (by decide) (by decide)))
    have H1 := Lib.hid (own_off H1.out hk (fun b cur h => HC8.out.off h (by decide) (by decide)))
    have H2 := Lib.hid (own_off H2.out hk (fun b cur h => HC8.out.off h (by decide) (by decide)))
    have C1 := Lib.hid (own_off C1.out hk (fun b cur h => HC8.out.off h (by decide) (by decide)))
    have Q1 := Lib.hid (own_off Q1.out hk (fun b cur h => HC8.out.off h (by decide) (by decide)))
    have Q2 := Lib.hid (own_off Q2.out hk (fun b cur h => HC8.out.off h (by decide) (by decide)))
    have R1 : Hid (w9.ownsRow B 64 1 r1 (b.size + 1) Y) := Lib.hid (own_low hq (HSZ.out _ HK.out))
    have HK := Lib.hid (HK.out.trans hk (fun i hi => .inr (by rw [← HB.out]; exact HC8.out.fresh HBgB.out hi)))
    clear hbk hq hk
    go_wp2_with fail
    refine (HCos.out w9 (HD2.out.kp HK.out)).mono ?_
    rintro e w10 ⟨gc2, hgc, rfl, ho, hk⟩
    have HDC : Hid (∀ k, (Value.slice (some ⟨gc, 0, none⟩) (b.size + 1) (b.size + 1)).ownBlock = some k → (Value.slice (some ⟨gc2, 0, none⟩) (b.size + 1) (b.size + 1)).ownBlock ≠ some k) := by
      refine Lib.hid fun k h1 h2 => ?_
      have h3 := (own_lt C1.out h1).2
      have h4 := (own_lt ho h2).1
      omega
    have C2 : Hid (w10.ownsRow B 64 1 (.slice (some ⟨gc2, 0, none⟩) (b.size + 1) (b.size + 1)) (b.size + 1) Y) := Lib.hid (own_low ho (HSZ.out _ HK.out))
    have OI := Lib.hid (hk.own OI.out (fun _ _ h => h))
    have OW := Lib.hid (hk.own OW.out (fun _ _ h => h))
    have H1 := Lib.hid (hk.own H1.out (fun _ _ h => h))
    have H2 := Lib.hid (hk.own H2.out (fun _ _ h => h))
    have C1 := Lib.hid (hk.own C1.out (fun _ _ h => h))
    have Q1 := Lib.hid (hk.own Q1.out (fun _ _ h => h))
    have Q2 := Lib.hid (hk.own Q2.out (fun _ _ h => h))
    have R1 := Lib.hid (hk.own R1.out (fun _ _ h => h))
    have HC10 := Lib.hid (HC9.out.kp hk)
    have HK := Lib.hid (HK.out.trans hk (fun _ h => h.elim))
    clear ho hk hgc
    go_wp2_with fail
    refine (HKC.out B gB _ _ _ _ _ (some ⟨gc2, 0, none⟩) (b.size + 1) B w10 HC10.out HBgB.out C2.out (by simp) (by simp)).mono ?_
    rintro e w11 ⟨I4, W4, r2, rfl, hbk, hq, hk⟩
    have OC : Hid (w11.ownsRow B 50 1 I4 2 [.slice (some ⟨gc, 0, none⟩) (b.size + 1) (b.size + 1), .slice (some ⟨gc2, 0, none⟩) (b.size + 1) (b.size + 1)]) := Lib.hid hbk.rI
    have OD : Hid (w11.ownsRow B 50 1 W4 2 [r1, r2]) := Lib.hid hbk.rW
    have OI := Lib.hid (own_off OI.out hk (fun b cur h => HC10.out.off h (by decide) (by decide)))
    have OW := Lib.hid (own_off OW.out hk (fun b cur h => HC10.out.off h (by decide) (by decide)))
    have H1 := Lib.hid (own_off H1.out hk (fun b cur h => HC10.out.off h (by decide) (by decide)))
    have H2 := Lib.hid (own_off H2.out hk (fun b cur h => HC10.out.off h (by decide) (by decide)))
    have C1 := Lib.hid (own_off C1.out hk (fun b cur h => HC10.out.off h (by decide) (by decide)))
    have C2 := Lib.hid (own_off C2.out hk (fun b cur h => HC10.out.off h (by decide) (by decide)))
    have Q1 := Lib.hid (own_off Q1.out hk (fun b cur h => HC10.out.off h (by decide) (by decide)))
    have Q2 := Lib.hid (own_off Q2.out hk (fun b cur h => HC10.out.off h (by decide) (by decide)))
    have R1 := Lib.hid (own_off R1.out hk (fun b cur h => HC10.out.off h (by decide) (by decide)))
    have R2 : Hid (w11.ownsRow B 64 1 r2 (b.size + 1) Y) := Lib.hid (own_low hq (HSZ.out _ HK.out))
    obtain ⟨AI, cI, rfl⟩ := own_slice OI.out
    obtain ⟨AW, cW, rfl⟩ := own_slice OW.out
    obtain ⟨AC, cC, rfl⟩ := own_slice OC.out
    obtain ⟨AD, cD, rfl⟩ := own_slice OD.out
    have HAP : Hid (∀ wx, Kp (fun _ => False) w11 wx → Calls Try.prog 27 #[.pointer (some ⟨gB, 0, none⟩)] wx fun e w' => e = .returned (.bool true) ∧ Kp (fun i => B ≤ i) wx w') := by
      refine Lib.hid fun wx k => ?_
      have z := fun {e : TypeId} {v : Value} {n : Nat} {xs : List Value} (h : w11.ownsRow B e 1 v n xs) => k.own h (fun _ _ h => h)
      exact apart_book gB B _ AI AW AC AD cI cW cC cD _ _ q1 q2 _ _ r1 r2 X Y wx (k.blk hbk.book (fun h => h)) (by rw [HCS0.out]; simp) (by rw [HCS0.out]; simp) (by rw [HCS0.out]; simp) (by rw [HCS0.out]; simp) (by rw [HCS0.out]; simp) (by rw [HCS0.out]; simp) (by rw [HCS0.out]; simp)
        (z OI.out) (z OW.out) (z OC.out) (z OD.out) (by rw [HXl.out]; exact z H1.out) (by rw [HXl.out]; exact z H2.out) (by rw [HXl.out]; exact z Q1.out) (by rw [HXl.out]; exact z Q2.out)
        (by rw [HYl.out]; exact z C1.out) (by rw [HYl.out]; exact z C2.out) (by rw [HYl.out]; exact z R1.out) (by rw [HYl.out]; exact z R2.out) HDI.out HDC.out (by rw [HXl.out]; omega) (by rw [HYl.out]; omega) HXg.out HYg.out (Nat.le_trans (HSZ.out _ HK.out) (Nat.le_trans hk.size k.size))
    have HK := Lib.hid (HK.out.trans hk (fun i hi => .inr (by rw [← HB.out]; exact HC10.out.fresh HBgB.out hi)))
    clear hbk hq hk
    go_wp2_with fail
    refine (rcosts_any A1 cap1 l b w11 (HR1.out.kp (HK2.out.trans HK.out (fun _ h => h.elim)) (fun _ _ _ h => h)) HO.out (by omega)).mono ?_
    rintro e w12 ⟨gt, gb, rfl, hrr, hk⟩
    have HRR := Lib.hid hrr
    have HK12 := Lib.hid hk
    have C1 := Lib.hid (hk.own C1.out (fun _ _ h => h))
    have H1 := Lib.hid (hk.own H1.out (fun _ _ h => h))
    clear hrr hk
    go_wp2_with fail
    go_loopw [69] (fun i wr => ∃ k : Nat, k ≤ b.size + 1 ∧ i = .int .i64 k ∧ Hid (Dr w12 wr)) (fun i _ => b.size + 1 - (intOf i).toNat)
    case atStart => exact ⟨0, Nat.zero_le _, rfl, Dr.refl _⟩
    case round =>
      obtain ⟨k, hk, rfl, HDr⟩ := hrel
      by_cases hlt : k < b.size + 1
      · obtain ⟨c, hc⟩ : ∃ c, (opt l b b.size)[k]? = some c := ⟨_, List.getElem?_eq_getElem (by rw [opt_len]; exact hlt)⟩
        have hsm := opt_small HO.out b (by omega) b.size (Nat.le_refl _) c (List.mem_of_getElem? hc)
        obtain ⟨⟨h2, _⟩, ⟨h3, _⟩⟩ := HRR.out.at_ hc
        have hy : Y[k]? = some (.complex .f64 (fb c.1) (fb c.2)) := by rw [HY.out]; unfold costs; rw [List.getElem?_map, hc]; rfl
        have h1 := (own_cellS C1.out k _ hy).1
        have p53 : 2 ^ 53 = 9007199254740992 := by decide
        have hE1 := ord_eq c.1 c.1 (by omega) (by omega)
        have hE2 := ord_eq c.2 c.2 (by omega) (by omega)
        rw [decide_eq_true rfl, ← floatOf] at hE1 hE2
        rw [← floatOf, ← floatOf] at h1
        have h1 := HDr.out.kp.cell h1 (fun h => h)
        have h2 := HDr.out.kp.cell h2 (fun h => h)
        have h3 := HDr.out.kp.cell h3 (fun h => h)
        obtain ⟨c1, c2⟩ := c
        have hk0 : (0 : Int) ≤ (k : Int) := by omega
        have hk1 : (k : Int) < ((b.size + 1 : Nat) : Int) := by omega
        clear hc hy p53 hsm
        go_wp2_with fail
        go_quiet (fail)
        go_wp2_with fail
        refine ⟨⟨k + 1, by omega, by simp, HDr.out.trans ⟨_, rfl⟩⟩, by simp only [intOf]; omega⟩
      · have HKr := Lib.hid (HK12.out.trans HDr.out.kp (fun _ h => h.elim))
        have HKs := Lib.hid ((HK2.out.trans HK.out (fun _ h => h.elim)).trans HKr.out (fun _ h => h.elim))
        by_cases hw : 1 ≤ window ∧ window ≤ 1024
        · obtain ⟨wn, rfl⟩ := Int.eq_ofNat_of_zero_le (show (0 : Int) ≤ window by omega)
          have hPe : P = bestP l b wn := by rw [HP.out]; unfold PW; rw [if_pos hw]; rfl
          have hsy := bestM_says HO.out wn (by omega) b.size b (Nat.le_refl _) (by omega)
          rw [show bestM l wn b.size b = P by rw [hPe]; rfl] at hsy
          have HSY := Lib.hid hsy
          have hbest := rbest_any A1 cap1 l b wn wr (HR1.out.kp HKs.out (fun _ _ _ h => h)) HO.out (by omega) (by omega) (by omega)
          rw [← hPe] at hbest
          have HBE := Lib.hid hbest
          have hw1 : 1 ≤ wn := by omega
          have hw2 : wn ≤ 1024 := by omega
          have H1 : Hid (RdS wr Ap X) := Lib.hid (RdS.own (HDr.out.kp.own H1.out (fun _ _ h => h)))
          clear hsy hbest hPe hw
          go_wp2_with fail
          refine HBE.out.mono ?_
          rintro e w13 ⟨vr, rfl, ho, hk⟩
          obtain ⟨Ar, cr, rfl⟩ := own_slice ho
          have HRb := Lib.hid (RdS.own ho)
          have H1 := Lib.hid (H1.out.kp hk (fun _ _ _ h => h))
          have HKs := Lib.hid (HKs.out.trans hk (fun _ h => h.elim))
          have HKr := Lib.hid (HKr.out.trans hk (fun _ h => h.elim))
          clear ho hk
          go_wp2_with fail
          have hsame := sameInts_any Ap Ar cp cr (toks P) (toks P) w13 (by rw [← HX.out]; exact H1.out) HRb.out (by rw [toks_len]; omega) (by rw [toks_len]; omega)
          rw [toks_len, show decide (toks P = toks P) = true by simp] at hsame
          refine hsame.mono ?_
          clear hsame
          rintro e w14 ⟨rfl, d1⟩
          have H1 := Lib.hid (H1.out.kp d1.kp (fun _ _ _ h => h))
          have HKs := Lib.hid (HKs.out.trans d1.kp (fun _ h => h.elim))
          have HKr := Lib.hid (HKr.out.trans d1.kp (fun _ h => h.elim))
          clear d1
          go_wp2_with fail
          have hsays := says_yes A1 Ap cap1 cp l b (P.map (·.1)) w14 (HR1.out.kp HKs.out (fun _ _ _ h => h)) (by rw [nats_toks, ← HX.out]; exact H1.out) (by omega) HSY.out.2.1 HSY.out.1 (by omega) (by rw [List.length_map]; omega)
          rw [List.length_map] at hsays
          refine hsays.mono ?_
          clear hsays
          rintro e w15 ⟨rfl, hk⟩
          have HKs := Lib.hid (HKs.out.trans hk (fun _ h => h.elim))
          have HKr := Lib.hid (HKr.out.trans hk (fun _ h => h.elim))
          clear hk
          go_wp2_with fail
          refine (HAP.out w15 HKr.out).mono ?_
          rintro e w16 ⟨rfl, hk⟩
          have HKe := Lib.hid (HKs.out.trans hk (fun i hi => .inr (Nat.le_trans HK2.out.size (by rw [← HB.out]; exact hi))))
          clear hk
          go_wp2_with fail
          go_ret
          exact ⟨rfl, HKe.out⟩
        · have hP0 : P.length = 0 := by rw [HP.out]; unfold PW; rw [if_neg hw]; rfl
          by_cases hw1 : window < 1
          · go_wp2_with fail
            refine (HAP.out wr HKr.out).mono ?_
            rintro e w16 ⟨rfl, hk⟩
            have HKe := Lib.hid (HKs.out.trans hk (fun i hi => .inr (Nat.le_trans HK2.out.size (by rw [← HB.out]; exact hi))))
            clear hk
            go_wp2_with fail
            go_ret
            exact ⟨rfl, HKe.out⟩
          · have hw2 : 1024 < window := by omega
            go_wp2_with fail
            refine (HAP.out wr HKr.out).mono ?_
            rintro e w16 ⟨rfl, hk⟩
            have HKe := Lib.hid (HKs.out.trans hk (fun i hi => .inr (Nat.le_trans HK2.out.size (by rw [← HB.out]; exact hi))))
            clear hk
            go_wp2_with fail
            go_ret
            exact ⟨rfl, HKe.out⟩
  · have HG := Lib.hid hg
    clear hg
    go_enter Try.func5, Try.ntmps5
    go_wp2_with fail
    refine (dict_no A1 cap1 l b w HR1.out hl HS.out hb HG.out).mono ?_
    rintro e w1 ⟨rfl, hk⟩
    have HK := Lib.hid hk
    clear hk
    go_wp2_with fail
    refine (bestAlive w1).mono ?_
    rintro e w2 ⟨rfl, hk⟩
    have HK2 := Lib.hid (HK.out.trans hk (fun _ h => .inl h))
    clear hk
    go_wp2_with fail
    go_ret
    exact ⟨rfl, HK2.out⟩

end Go.Proofs.Ytbhjckhhmcfpfaa

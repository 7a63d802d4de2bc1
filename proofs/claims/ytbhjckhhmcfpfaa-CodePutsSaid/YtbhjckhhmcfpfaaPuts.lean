/- CodePuts: the walk of the law's own function. -/
import Derived.Test.YtbhjckhhmcfpfaaCodeAlive
import Derived.Deep.CutRange
import Derived.Deep.DeepCutAuto
import Derived.Deep.CutBlock
import Derived.Deep.AppendLies
import Derived.Deep.RegionLaw
import Derived.Deep.RegionHeld3
namespace Go.Proofs.Ytbhjckhhmcfpfaa
open Go.RowKit
set_option linter.unusedVariables false
set_option linter.unusedSimpArgs false

theorem and_bitP (u r : Nat) (hu : u < 9223372036854775808) : bits .and .i64 ((u : Int) / 2 ^ r) 1 = ((u / 2 ^ r % 2 : Nat) : Int) := by
  have hd : (u : Int) / 2 ^ r = ((u / 2 ^ r : Nat) : Int) := by simp
  have hl : u / 2 ^ r ≤ u := Nat.div_le_self _ _
  rw [hd]
  generalize u / 2 ^ r = q at *
  rw [and_one _ (by omega) (by omega)]
  omega
theorem le_alloc (w : World) (o : Obj) : w.heap.size ≤ (w.alloc o).heap.size := by simp
theorem le_alloc_drew (w : World) (o : Obj) : w.heap.size ≤ (w.alloc o).drew.heap.size := by simp
theorem blk_new_drew (w : World) (o : Obj) : (w.alloc o).drew.heap[w.heap.size]? = some o := heap_alloc_new w o
section
variable {P : Program}
/-- append(v, y), v owned: at a step of a region that draws. -/
theorem sapp1 {w : World} {ops : Array Oper} {o : Oper} {a : Act} {K : Act → World → Prop} {Q : Exit → Act → World → Prop} {E : Prop} (base : Nat) (hgd : o.guard = none) (s x : Operand) (t e : TypeId) (z : Value) (bytes : Nat)
    (ho : o.op = .call { callee := .builtin .append, args := #[s, x], argTypes := #[t, t] })
    (ht : P.underlying t = some (.slice e)) (hinfo : (P.info? e).map (fun i => (i.zero, i.size, i.bytes)) = some (some z, 1, bytes)) (hz : z.cells.size = 1) (hb0 : 0 < bytes)
    (v : Value) (n : Nat) (xs : List Value) (y : Value) (hs : a.eval s = v) (B : Nat) (hx : a.eval x = .slice (some ⟨B, 0, none⟩) 1 1) (h1 : y.oneCell' = true)
    (HO : w.ownsRow base e 1 v n xs) (hb : w.heap[B]? = some (.cells #[y] e (0, 0))) (hbase : base ≤ w.heap.size) (hl : (n + 1) * bytes ≤ 140737488355328)
    (h : ∀ v1 w1, w1.ownsRow base e 1 v1 (n + 1) (xs ++ [y]) → w.grownBy w1 v.ownBlock → (∀ k, v1.ownBlock = some k → v.ownBlock = some k ∨ w.heap.size ≤ k) → K (a.put o.dst v1) w1) :
    if Region.wanted o (yielded ops a.tmps) = true then Oper.wp P o a w K Q else E := by
  obtain ⟨i0, hi, hzz⟩ := Option.map_eq_some_iff.1 hinfo
  simp only [Prod.mk.injEq] at hzz
  obtain ⟨hz0, hz1, hz2⟩ := hzz
  have hlen : n + 1 ≤ 140737488355328 := Nat.le_trans (Nat.le_mul_of_pos_right _ hb0) hl
  refine step_append_lies w hgd s x t ho base e i0 z 1 bytes ht hi hz0 hz1 hz2 hz (by omega) v n xs hs HO ⟨B, 0, none⟩ 1 1 [y] hx rfl (World.news_of_block hb) (by simpa using h1) (by omega) (by simp only [maxLen]; omega) hl hbase _ rfl ?_
  intro g cap w' hown hg hat _
  refine h _ w' hown hg (fun k hk => ?_)
  have : g = k := by simpa [Value.ownBlock] using hk
  subst this
  rcases hat with hat | hat
  · exact .inl hat
  · exact .inr (by omega)
end
/-- What stands between two rounds. -/
structure PSt (w W : World) (gw k : Nat) (v0 : Value) (L : List Int) (v8 : Value) : Prop where
  wr : WR W w.heap.size gw v0 L
  own : W.ownsRow w.heap.size 3 1 v8 L.length (ints .i64 L)
  hL : L.length ≤ 15 * k
  h01 : ∀ x, x ∈ L → x = 0 ∨ x = 1
  kp : Kp (fun _ => False) w W

/-- May the symbol's code be written? -/
def mayP (l c : List Int) (s : Int) : Prop := symOk l c s ∧ 0 ≤ c.getD s.toNat 0 ∧ c.getD s.toNat 0 < 2 ^ (l.getD s.toNat 0).toNat

set_option maxRecDepth 100000 in
set_option maxHeartbeats 16000000 in
theorem puts_any (A1 A2 A3 : Option Addr) (cap1 cap2 cap3 : Nat) (l c q : List Int) (w : World) (hr1 : RdS w A1 (ints .i64 l)) (hr2 : RdS w A2 (ints .i64 c)) (hr3 : RdS w A3 (ints .i64 q)) :
    Calls Try.prog 4 #[.slice A1 l.length cap1, .slice A2 c.length cap2, .slice A3 q.length cap3] w fun e w' => e = .returned (.bool true) ∧ Kp (fun _ => False) w w' := by
  have HR1 := Lib.hid hr1
  have HR2 := Lib.hid hr2
  have HR3 := Lib.hid hr3
  clear hr1 hr2 hr3
  by_cases h1 : 400 < l.length
  · go_enter Try.func4, Try.ntmps4
    go_wp2_with fail
    refine (codeAlive _).mono ?_
    rintro e W1 ⟨rfl, hk⟩
    have HK := Lib.hid hk
    clear hk
    go_wp2_with fail
    go_ret
    exact ⟨rfl, HK.out⟩
  by_cases h2 : 400 < c.length
  · go_enter Try.func4, Try.ntmps4
    go_wp2_with fail
    refine (codeAlive _).mono ?_
    rintro e W1 ⟨rfl, hk⟩
    have HK := Lib.hid hk
    clear hk
    go_wp2_with fail
    go_ret
    exact ⟨rfl, HK.out⟩
  by_cases h3 : 100 < q.length
  · go_enter Try.func4, Try.ntmps4
    go_wp2_with fail
    refine (codeAlive _).mono ?_
    rintro e W1 ⟨rfl, hk⟩
    have HK := Lib.hid hk
    clear hk
    go_wp2_with fail
    go_ret
    exact ⟨rfl, HK.out⟩
  go_enter Try.func4, Try.ntmps4
  go_wp2_with fail
  refine (codeAlive _).mono ?_
  rintro e W1 ⟨rfl, hk⟩
  have HK := Lib.hid hk
  clear hk
  go_wp2_with fail
  obtain ⟨W2, hW2⟩ : ∃ W2, W2 = W1.alloc (.cells #[.slice none 0 0, .int .i64 0] 27) := ⟨_, rfl⟩
  rw [← hW2]
  have hst : PSt w W2 W1.heap.size 0 (.slice none 0 0) [] (.slice none 0 0) := by
    rw [hW2]
    exact ⟨WR.new W1 w.heap.size HK.out.size, World.ownsRow_nil _ _ _ _, by simp, by simp, HK.out.alloc _⟩
  obtain ⟨gw, HGW⟩ : ∃ gw, Hid (gw = W1.heap.size) := ⟨_, Lib.hid rfl⟩
  rw [← HGW.out] at hst
  rw [← HGW.out]
  have hgw : w.heap.size ≤ gw := by rw [HGW.out]; exact HK.out.size
  have HST0 := Lib.hid hst
  clear hst hW2 HK
  go_loopw [8, 35] (fun v i wr => ∃ k : Nat, k ≤ q.length ∧ i = .int .i64 k ∧ ∃ q8 v0 L, q8 = v ∧ PSt w wr gw k v0 L q8) (fun _ i _ => q.length - (intOf i).toNat)
  case atStart => exact ⟨0, Nat.zero_le _, rfl, _, _, _, rfl, HST0.out⟩
  case round =>
    obtain ⟨k, hk, rfl, q8, v0, L, rfl, hst⟩ := hrel
    have HST := Lib.hid hst
    clear hst HST0
    by_cases hlt : k < q.length
    · obtain ⟨s, b3, o3, hs, rfl, hc3⟩ := HR3.out.at_ hlt
      have hc3 := HST.out.kp.cell hc3 (fun h => h)
      clear hs
      go_upto_region 8 with fail
      go_cut [11] (fun x wx => ∃ g m, x = .bool g ∧ Hid (g = true ↔ mayP l c s) ∧ wr.drewN m = wx)
      case first =>
        --[may
        as_aux_lemma =>
          by_cases g0 : 0 ≤ s
          · obtain ⟨n, rfl⟩ := Int.eq_ofNat_of_zero_le g0
            by_cases g1 : n < l.length
            · by_cases g2 : n < c.length
              · obtain ⟨x, b1, o1, hx, rfl, hc1⟩ := HR1.out.at_ g1
                obtain ⟨y, b2, o2, hy, rfl, hc2⟩ := HR2.out.at_ g2
                have hc1 := HST.out.kp.cell hc1 (fun h => h)
                have hc2 := HST.out.kp.cell hc2 (fun h => h)
                have hgd1 : l.getD n 0 = x := by rw [List.getD_eq_getElem?_getD, hx]; rfl
                have hgd2 : c.getD n 0 = y := by rw [List.getD_eq_getElem?_getD, hy]; rfl
                have hm : Hid (mayP l c n ↔ (1 ≤ x ∧ x ≤ 15 ∧ 0 ≤ y ∧ y < 2 ^ x.toNat)) := by
                  show mayP l c n ↔ _
                  unfold mayP symOk
                  rw [Int.toNat_natCast, hgd1, hgd2]
                  omega
                clear hx hy hgd1 hgd2
                by_cases g3 : 1 ≤ x
                · by_cases g4 : x ≤ 15
                  · by_cases g5 : 0 ≤ y
                    · have hpw : wrap64 (2 ^ x.toNat) = 2 ^ x.toNat := pow_wrap _ (by omega)
                      by_cases g6 : y < wrap64 (2 ^ x.toNat)
                      · have G6 : Hid (mayP l c n) := hm.out.2 ⟨g3, g4, g5, by rw [← hpw]; exact g6⟩
                        clear hpw
                        go_quiet (fail)
                        go_wp2_with fail
                        go_meet
                        exact ⟨true, _, rfl, ⟨fun _ => G6.out, fun _ => rfl⟩, rfl⟩
                      · have G6 : Hid (¬ mayP l c n) := fun h => g6 (by rw [hpw]; exact (hm.out.1 h).2.2.2)
                        have g6b : decide (y < wrap64 (2 ^ x.toNat)) = false := by simp only [decide_eq_false_iff_not]; exact g6
                        clear hpw
                        go_quiet (fail)
                        go_wp2_with fail
                        go_meet
                        exact ⟨false, _, rfl, ⟨fun h => absurd h (by decide), fun h => (G6.out h).elim⟩, rfl⟩
                    · have G6 : Hid (¬ mayP l c n) := fun h => g5 (hm.out.1 h).2.2.1
                      have g5b : decide (0 ≤ y) = false := by simp only [decide_eq_false_iff_not]; exact g5
                      go_quiet (fail)
                      go_wp2_with fail
                      go_meet
                      exact ⟨false, _, rfl, ⟨fun h => absurd h (by decide), fun h => (G6.out h).elim⟩, rfl⟩
                  · have G6 : Hid (¬ mayP l c n) := fun h => g4 (hm.out.1 h).2.1
                    have g4b : decide (x ≤ 15) = false := by simp only [decide_eq_false_iff_not]; exact g4
                    go_quiet (fail)
                    go_wp2_with fail
                    go_meet
                    exact ⟨false, _, rfl, ⟨fun h => absurd h (by decide), fun h => (G6.out h).elim⟩, rfl⟩
                · have G6 : Hid (¬ mayP l c n) := fun h => g3 (hm.out.1 h).1
                  have g3b : decide (1 ≤ x) = false := by simp only [decide_eq_false_iff_not]; exact g3
                  go_quiet (fail)
                  go_wp2_with fail
                  go_meet
                  exact ⟨false, _, rfl, ⟨fun h => absurd h (by decide), fun h => (G6.out h).elim⟩, rfl⟩
              · have G6 : Hid (¬ mayP l c n) := fun h => g2 (by have := h.1.2.2.1; omega)
                have g2b : decide ((n : Int) < c.length) = false := by simp; omega
                have g2c : decide (n < c.length) = false := by simp; omega
                go_quiet (fail)
                go_wp2_with fail
                go_meet
                exact ⟨false, _, rfl, ⟨fun h => absurd h (by decide), fun h => (G6.out h).elim⟩, rfl⟩
            · have G6 : Hid (¬ mayP l c n) := fun h => g1 (by have := h.1.2.1; omega)
              have g1b : decide ((n : Int) < l.length) = false := by simp; omega
              have g1c : decide (n < l.length) = false := by simp; omega
              go_quiet (fail)
              go_wp2_with fail
              go_meet
              exact ⟨false, _, rfl, ⟨fun h => absurd h (by decide), fun h => (G6.out h).elim⟩, rfl⟩
          · have G6 : Hid (¬ mayP l c s) := fun h => g0 h.1.1
            have g0b : decide (0 ≤ s) = false := by simp only [decide_eq_false_iff_not]; exact g0
            go_quiet (fail)
            go_wp2_with fail
            go_meet
            exact ⟨false, _, rfl, ⟨fun h => absurd h (by decide), fun h => (G6.out h).elim⟩, rfl⟩
        --]may
      case rest =>
        --[rest
        as_aux_lemma =>
          obtain ⟨g, m, rfl, HG, rfl⟩ := hcut
          have HSTm : Hid (PSt w (wr.drewN m) gw k v0 L q8) := ⟨HST.out.wr, HST.out.own, HST.out.hL, HST.out.h01, HST.out.kp.drewN m⟩
          obtain ⟨W3, hW3⟩ : ∃ W3, W3 = wr.drewN m := ⟨_, rfl⟩
          rw [← hW3] at HSTm
          rw [← hW3]
          clear hW3 HST hc3
          have rd1 := HR1.out.kp HSTm.out.kp (fun _ _ _ h => h)
          have rd2 := HR2.out.kp HSTm.out.kp (fun _ _ _ h => h)
          have HRD1 := Lib.hid rd1
          have HRD2 := Lib.hid rd2
          have hLb := HSTm.out.hL
          clear rd1 rd2
          cases g with
          | true =>
            have hP : mayP l c s := HG.out.1 rfl
            obtain ⟨n, rfl⟩ := Int.eq_ofNat_of_zero_le hP.1.1
            have hn1 : n < l.length := by have := hP.1.2.1; omega
            have hn2 : n < c.length := by have := hP.1.2.2.1; omega
            obtain ⟨x0, b1, o1, hx, rfl, hc1⟩ := HR1.out.at_ hn1
            obtain ⟨y0, b2, o2, hy, rfl, hc2⟩ := HR2.out.at_ hn2
            have hgd1 : l.getD n 0 = x0 := by rw [List.getD_eq_getElem?_getD, hx]; rfl
            have hgd2 : c.getD n 0 = y0 := by rw [List.getD_eq_getElem?_getD, hy]; rfl
            have hyes := cput_yes w.heap.size gw v0 L _ _ cap1 cap2 l c n W3 HSTm.out.wr (by omega) HRD1.out HRD2.out (by omega) (by omega) hP.1 hP.2
            have hnil := fun W (r1 : RdS W (some ⟨b1, o1, none⟩) (ints .i64 l)) (r2 : RdS W (some ⟨b2, o2, none⟩) (ints .i64 c)) => cput_nil (some ⟨b1, o1, none⟩) (some ⟨b2, o2, none⟩) cap1 cap2 l c n W r1 r2 (by omega) (by omega) hP.1
            have hP2 := hP
            unfold mayP symOk at hP2
            rw [Int.toNat_natCast, hgd1, hgd2] at hP2
            rw [Int.toNat_natCast, hgd1, hgd2] at hyes
            obtain ⟨⟨-, -, -, hp1, hp2⟩, hp3, hp4⟩ := hP2
            obtain ⟨x, rfl⟩ := Int.eq_ofNat_of_zero_le (show 0 ≤ x0 by omega)
            obtain ⟨y, rfl⟩ := Int.eq_ofNat_of_zero_le hp3
            simp only [Int.toNat_natCast] at hyes hp4
            have hy63 : y < 9223372036854775808 := by
              have e : ((2 ^ x : Nat) : Int) = (2 : Int) ^ x := by simp
              have h := Nat.pow_le_pow_right (n := 2) (by omega) (show x ≤ 15 by omega)
              have e2 : 2 ^ 15 = 32768 := by decide
              rw [← e] at hp4
              omega
            have HC1 := Lib.hid hc1
            have HC2 := Lib.hid hc2
            have HY := Lib.hid hyes
            have HN := Lib.hid hnil
            clear hyes hnil hP hx hy hgd1 hgd2 hp4 hc1 hc2
            go_wp2_with fail
            refine HY.out.mono ?_
            rintro e W6 ⟨rfl, v1, hw6, hk6, hf6⟩
            have HK6 := Lib.hid (HSTm.out.kp.trans hk6 (fun i h => .inr (h.elim (fun h => by omega) (fun h => (own_lt HSTm.out.wr.2.2.2 h).1))))
            have HO6 : Hid (W6.ownsRow w.heap.size 3 1 q8 L.length (ints .i64 L)) := hk6.own HSTm.out.own (fun i hi h => h.elim (fun h => by
              obtain ⟨cur, hh⟩ := own_blk HSTm.out.own hi
              exact blk_ne hh HSTm.out.wr.1 (by decide) h) (fun h => by
              obtain ⟨cur, hh⟩ := own_blk HSTm.out.own hi
              obtain ⟨cur2, hh2⟩ := own_blk HSTm.out.wr.2.2.2 h
              exact blk_ne hh hh2 (by decide) rfl))
            have HW6 := Lib.hid hw6
            clear hw6 hk6 hf6
            go_wp2_with fail
            refine (HN.out W6 (HR1.out.kp HK6.out (fun _ _ _ h => h)) (HR2.out.kp HK6.out (fun _ _ _ h => h))).mono ?_
            rintro e w' ⟨rfl, m6, rfl⟩
            obtain ⟨W7, hW7⟩ : ∃ W7, W7 = W6.drewN m6 := ⟨_, rfl⟩
            have HK7 : Hid (Kp (fun _ => False) w W7) := by rw [hW7]; exact HK6.out.drewN m6
            have HO7 : Hid (W7.ownsRow w.heap.size 3 1 q8 L.length (ints .i64 L)) := by rw [hW7]; exact HO6.out
            have HW7 : Hid (WR W7 w.heap.size gw v1 (L ++ bitsOf y x x)) := by rw [hW7]; exact HW6.out
            rw [← hW7]
            clear hW7 HO6 HW6 HK6 HN HY
            go_wp2_with fail
            go_loopw [8, 12] (fun r i wr => ∃ j : Nat, j ≤ x ∧ i = .int .i64 j ∧ ∃ r2, r2 = r ∧ wr.ownsRow w.heap.size 3 1 r2 (L.length + j) (ints .i64 (L ++ bitsOf y x j)) ∧ Kp (fun i => q8.ownBlock = some i) W7 wr ∧ (∀ i, r2.ownBlock = some i → q8.ownBlock = some i ∨ W7.heap.size ≤ i)) (fun _ i _ => x - (intOf i).toNat)
            case atStart => exact ⟨0, Nat.zero_le _, rfl, q8, rfl, by simpa [bitsOf] using HO7.out, Kp.refl _ _, fun _ h => .inl h⟩
            case round =>
              obtain ⟨j, hj, rfl, r2, rfl, ho, hkp, hfr⟩ := hrel
              have HFR := Lib.hid hfr
              have HO := Lib.hid ho
              have HKP := Lib.hid hkp
              have hkw : Kp (fun _ => False) w wr := HK7.out.trans hkp (fun i h => .inr (own_lt HO7.out h).1)
              have hc1 := hkw.cell HC1.out (fun h => h)
              have hc2 := hkw.cell HC2.out (fun h => h)
              have HKW := Lib.hid hkw
              clear ho hkp hkw hfr
              by_cases hjm : j < x
              · have HB := Lib.hid (and_bitP y (x - 1 - j) hy63)
                obtain ⟨A9, cap9, rfl⟩ := own_slice HO.out
                go_wp2_with fail
                have hl8 : (L.length + j + 1) * 8 ≤ 140737488355328 := by omega
                have hw1 : IntKind.i64.wrap ((x : Int) - 1) = x - 1 := by rw [IntKind.wrap_i64]; omega
                have hw2 : IntKind.i64.wrap ((x : Int) - 1 - j) = x - 1 - j := by rw [IntKind.wrap_i64]; omega
                have hw3 : IntKind.u64.wrap ((x : Int) - 1 - j) = x - 1 - j := by simp only [IntKind.wrap, IntKind.bits, IntKind.signed]; simp; omega
                have hw4 : ((x : Int) - 1 - j).toNat = x - 1 - j := by omega
                have HL8 := Lib.hid hl8
                clear hl8
                have lb1 := World.block_lt_of_cell? w _ HC1.out
                have lb2 := World.block_lt_of_cell? w _ HC2.out
                have hrow : ∀ i, (Value.slice A9 (L.length + j) cap9).ownBlock = some i → w.heap.size ≤ i := fun i hi => (own_lt HO.out hi).1
                have HROW := Lib.hid hrow
                have hsz := HKW.out.size
                clear hrow
                go_wp2_with fail
                go_region_held3 (fun w' => w'.cell? ⟨b1, o1 + n, none⟩ = some (.int .i64 x) ∧ w'.cell? ⟨b2, o2 + n, none⟩ = some (.int .i64 y))
                  (first
                    | go_keep
                    | (go_split_ands
                       refine ⟨?_, ?_⟩
                       · (rw [hgrow.cell_far _ (by simp; omega) (fun h => by have := HROW.out _ h.symm; simp only [] at this; omega)]; assumption)
                       · (rw [hgrow.cell_far _ (by simp; omega) (fun h => by have := HROW.out _ h.symm; simp only [] at this; omega)]; assumption)))
                  ((refine sapp1 w.heap.size (by rfl) _ _ 30 3 (.int .i64 0) 8 (by rfl) Try.underlying30 info_int2 rfl (by decide) (.slice A9 (L.length + j) cap9) (L.length + j) _ _ (by rfl) wr.heap.size (by rfl) rfl ((HO.out.alloc _).drew) (blk_new_drew wr _) (Nat.le_trans HKW.out.size (le_alloc_drew wr _)) HL8.out ?_; intro v2 w2 hown hgrow hfresh))
                have HO2 := Lib.hid hown
                have HG2 := Lib.hid hgrow
                have HF2 := Lib.hid hfresh
                clear hown hgrow hfresh
                go_wp2_with fail
                refine ⟨⟨j + 1, by omega, by simp, _, rfl, ?_, (HKP.out.alloc _).drew.grown HG2.out (fun i hi => HFR.out i hi), fun i hi => (HF2.out i hi).elim (fun h => HFR.out i h) (fun h => .inr (Nat.le_trans HKP.out.size (Nat.le_trans (le_alloc_drew wr _) h)))⟩, by simp only [intOf]; omega⟩
                have := HO2.out
                rw [HB.out] at this
                rw [bitsOf_succ, ← Nat.add_assoc]
                simpa [ints] using this
              · go_wp2_with fail
                obtain rfl : j = x := by omega
                have HWr : Hid (WR wr w.heap.size gw v1 (L ++ bitsOf y j j)) := HW7.out.kp HKP.out (fun h => by
                  obtain ⟨cur, hh⟩ := own_blk HO7.out h
                  exact blk_ne hh HW7.out.1 (by decide) rfl) (fun i hi h => by
                  obtain ⟨cur, hh⟩ := own_blk HO7.out h
                  obtain ⟨cur2, hh2⟩ := own_blk HW7.out.2.2.2 hi
                  exact blk_ne hh hh2 (by decide) rfl)
                have hlen : (L ++ bitsOf y j j).length = L.length + j := by rw [List.length_append, bitsOf_len]
                obtain ⟨A9, cap9, rfl⟩ := own_slice HO.out
                have hwl := wlen_any _ _ _ _ wr HWr.out
                rw [hlen] at hwl
                have HLN := Lib.hid hlen
                clear hlen
                refine hwl.mono ?_
                clear hwl
                rintro e w' ⟨rfl, m8, rfl⟩
                go_wp2_with fail
                refine ⟨⟨k + 1, by omega, by simp, _, v1, L ++ bitsOf y j j, rfl, ?_⟩, by simp only [intOf]; omega⟩
                refine ⟨HWr.out, by rw [HLN.out]; exact HO.out, by rw [HLN.out]; omega, ?_, HKW.out.drewN _⟩
                intro z hz
                rcases List.mem_append.1 hz with hz | hz
                · exact HSTm.out.h01 z hz
                · simp only [bitsOf, List.mem_map] at hz
                  obtain ⟨t, _, rfl⟩ := hz
                  have := Nat.mod_two_eq_zero_or_one (y / 2 ^ (j - 1 - t))
                  omega
          | false =>
            have hP : ¬ mayP l c s := fun h => absurd (HG.out.2 h) (by decide)
            have hno : ∀ W, RdS W A1 (ints .i64 l) → RdS W A2 (ints .i64 c) → Calls Try.prog 19 #[.pointer (some ⟨gw, 0, none⟩), .slice A1 l.length cap1, .slice A2 c.length cap2, .int .i64 s] W fun e w' => e = .returned (.bool false) ∧ Dr W w' := by
              intro W r1 r2
              by_cases hs : symOk l c s
              · exact cput_out _ _ _ cap1 cap2 l c s W r1 r2 (by omega) (by omega) hs (fun h => hP ⟨hs, h⟩)
              · exact cput_no _ _ _ cap1 cap2 l c s W r1 r2 (by omega) (by omega) hs
            have hnil : ∀ W, RdS W A1 (ints .i64 l) → RdS W A2 (ints .i64 c) → Calls Try.prog 19 #[.pointer none, .slice A1 l.length cap1, .slice A2 c.length cap2, .int .i64 s] W fun e w' => e = .returned (.bool false) ∧ Dr W w' := by
              intro W r1 r2
              by_cases hs : symOk l c s
              · exact cput_nil _ _ cap1 cap2 l c s W r1 r2 (by omega) (by omega) hs
              · exact cput_no _ _ _ cap1 cap2 l c s W r1 r2 (by omega) (by omega) hs
            have HNO := Lib.hid hno
            have HNIL := Lib.hid hnil
            clear hno hnil hP
            go_wp2_with fail
            refine (HNO.out W3 HRD1.out HRD2.out).mono ?_
            rintro e w' ⟨rfl, m6, rfl⟩
            go_wp2_with fail
            refine (HNIL.out (W3.drewN m6) HRD1.out HRD2.out).mono ?_
            rintro e w' ⟨rfl, m7, rfl⟩
            go_wp2_with fail
            go_loopw [8, 12] (fun r i wr => r = q8 ∧ i = .int .i64 0 ∧ wr = W3.drewN (m6 + m7)) (fun _ _ _ => 0)
            case atStart => exact ⟨rfl, rfl, rfl⟩
            case round =>
              obtain ⟨rfl, rfl, rfl⟩ := hrel
              obtain ⟨A9, cap9, rfl⟩ := own_slice HSTm.out.own
              go_wp2_with fail
              refine (wlen_any w.heap.size gw v0 L (W3.drewN (m6 + m7)) HSTm.out.wr).mono ?_
              rintro e w' ⟨rfl, m8, rfl⟩
              go_wp2_with fail
              exact ⟨⟨k + 1, by omega, by simp, _, v0, L, rfl, HSTm.out.wr, HSTm.out.own, by omega, HSTm.out.h01, HSTm.out.kp.drewN _⟩, by simp only [intOf]; omega⟩
        --]rest
    · --[exit
      as_aux_lemma =>
        have hlt' : ¬ k < q.length := hlt
        go_wp2_with fail
        refine (wbytes_any _ _ _ _ wr HST.out.wr).mono ?_
        rintro e w' ⟨rfl, m1, rfl⟩
        obtain ⟨A9, cap9, rfl⟩ := own_slice HST.out.own
        go_wp2_with fail
        have hpack := pack_any A9 cap9 L (wr.drewN m1) (RdS.own (w := wr.drewN m1) HST.out.own) HST.out.h01 (by have := HST.out.hL; omega)
        refine hpack.mono ?_
        clear hpack
        rintro e W9 ⟨rfl, hk9⟩
        have HK9 := Lib.hid ((HST.out.kp.drewN m1).trans hk9 (fun _ h => .inl h))
        clear hk9
        go_wp2_with fail
        go_ret
        exact ⟨rfl, HK9.out⟩
      --]exit

end Go.Proofs.Ytbhjckhhmcfpfaa

/- flex.Reach, better, flex.Next, flex.Parse: what each returns; nothing old is written. -/
import Derived.Test.YtbhjckhhmcfpfaaGreedy
namespace Go.Proofs.Ytbhjckhhmcfpfaa
open Go.RowKit
set_option linter.unusedVariables false
set_option linter.unusedSimpArgs false

set_option maxRecDepth 100000 in
set_option maxHeartbeats 1000000 in
theorem reach_any (g : Nat) (l : List ByteArray) (b : ByteArray) (at_ n : Nat) (w : World) (h : DICT w g l) (hd : DictOk l) (hb : b.size ≤ 1024) (hn : at_ + n ≤ b.size) :
    Calls Try.prog 95 #[.pointer (some ⟨g, 0, none⟩), .string b, .int .i64 at_, .int .i64 n] w fun e w' => e = .returned (.int .i64 (reachM l b at_ n)) ∧ Kp (fun _ => False) w w' := by
  have HD := Lib.hid h
  have HO := Lib.hid hd
  clear h hd
  by_cases hlt : at_ + n < b.size
  · obtain ⟨x, HX⟩ : ∃ x, Hid (x = gnext l b (at_ + n)) := ⟨_, Lib.hid rfl⟩
    obtain ⟨_, hx1, hx2, hx3, hx4⟩ := step_mng HO.out b (at_ + n) hlt _ (gnext_step l b (at_ + n))
    rw [← HX.out] at hx1 hx2 hx3 hx4
    have HR : Hid (reachM l b at_ n = at_ + n + x.2) := by show _ = _; unfold reachM moreM; rw [if_pos hlt, HX.out]
    have hc := gnext_any g l b (at_ + n) w HD.out HO.out (by omega) hlt
    rw [← HX.out] at hc
    have e1 : ((at_ + n : Nat) : Int) = (at_ : Int) + n := by omega
    rw [e1] at hc
    have HC := Lib.hid hc
    clear hc e1
    go_enter Try.func95, Try.ntmps95
    go_wp2_with fail
    refine HC.out.mono ?_
    rintro e w1 ⟨rfl, hk⟩
    have HK := Lib.hid hk
    clear hk
    go_wp2_with fail
    go_ret
    refine ⟨?_, HK.out⟩
    rw [HR.out]
    have : ((at_ + n + x.2 : Nat) : Int) = (at_ : Int) + n + x.2 := by omega
    rw [this]
    rfl
  · have HR : Hid (reachM l b at_ n = at_ + n) := by show _ = _; unfold reachM moreM; rw [if_neg hlt, Nat.add_zero]
    have hc := gnext_end (.pointer (some ⟨g, 0, none⟩)) b (at_ + n) w (by omega) (by omega) (by omega)
    have e1 : ((at_ + n : Nat) : Int) = (at_ : Int) + n := by omega
    rw [e1] at hc
    have HC := Lib.hid hc
    clear hc e1
    go_enter Try.func95, Try.ntmps95
    go_wp2_with fail
    refine HC.out.mono ?_
    rintro e w1 ⟨rfl, hk⟩
    have HK := Lib.hid hk
    clear hk
    go_wp2_with fail
    go_ret
    refine ⟨?_, HK.out⟩
    rw [HR.out]
    have : ((at_ + n : Nat) : Int) = (at_ : Int) + n := by omega
    rw [this]
    first | rfl | simp

/-- A choice as a value. -/
def chV (c : Nat × Nat × Nat) : Value := .agg #[.int .i64 (c.1 : Int), .int .i64 (c.2.1 : Int), .int .i64 (c.2.2 : Int)]
set_option maxHeartbeats 1000000 in
theorem better_any (t1 t2 : Int) (n1 r1 n2 r2 : Nat) (w : World) :
    Calls Try.prog 96 #[.agg #[.int .i64 t1, .int .i64 (n1 : Int), .int .i64 (r1 : Int)], .agg #[.int .i64 t2, .int .i64 (n2 : Int), .int .i64 (r2 : Int)]] w fun e w' => e = .returned (.bool (betterB (0, n1, r1) (0, n2, r2))) ∧ Kp (fun _ => False) w w' := by
  by_cases hr : r1 = r2
  · have HB : Hid (betterB (0, n1, r1) (0, n2, r2) = decide (n2 < n1)) := by
      show _ = _
      unfold betterB
      simp [hr]
    have hb : ((r1 : Int) != (r2 : Int)) = false := by simp; omega
    clear hr
    go_enter Try.func96, Try.ntmps96
    go_wp2_with fail
    go_ret
    exact ⟨by rw [HB.out]; rfl, ((Kp.refl _ w).alloc _).alloc _⟩
  · have HB : Hid (betterB (0, n1, r1) (0, n2, r2) = decide (r2 < r1)) := by
      show _ = _
      unfold betterB
      simp [hr]
    have hb : ((r1 : Int) != (r2 : Int)) = true := by simp; omega
    clear hr
    go_enter Try.func96, Try.ntmps96
    go_wp2_with fail
    go_ret
    exact ⟨by rw [HB.out]; rfl, ((Kp.refl _ w).alloc _).alloc _⟩

theorem flexP_append (l0 : List ByteArray) (b : ByteArray) (at_ : Nat) (l1 l2 : List ByteArray) (k : Nat) (st : (Nat × Nat × Nat) × Bool) : flexP l0 b at_ k (l1 ++ l2) st = flexP l0 b at_ (k + l1.length) l2 (flexP l0 b at_ k l1 st) := by
  induction l1 generalizing k st with
  | nil => rfl
  | cons s r ih =>
    simp only [List.cons_append, flexP, List.length_cons]
    rw [ih]
    congr 1
    omega
theorem flexP_snoc (l0 : List ByteArray) (b : ByteArray) (at_ : Nat) (l : List ByteArray) (k : Nat) (s : ByteArray) (hs : l[k]? = some s) (st : (Nat × Nat × Nat) × Bool) :
    flexP l0 b at_ 0 (l.take (k + 1)) st = let r := flexP l0 b at_ 0 (l.take k) st; if pfx (b.extract at_ b.size) s = true then (if betterB (256 + k, s.size, reachM l0 b at_ s.size) r.1 = true then (256 + k, s.size, reachM l0 b at_ s.size) else r.1, r.2 || decide (s.size = 1)) else r := by
  have hl : (l.take k).length = k := by
    obtain ⟨h, _⟩ := List.getElem?_eq_some_iff.1 hs
    rw [List.length_take]
    omega
  rw [List.take_add_one, hs, Option.toList_some, flexP_append, hl, Nat.zero_add]
  rfl

/-- The best choice so far, at block gf. -/
def CH (w : World) (gf : Nat) (c : Nat × Nat × Nat) : Prop := w.heap[gf]? = some (.cells #[.int .i64 (c.1 : Int), .int .i64 (c.2.1 : Int), .int .i64 (c.2.2 : Int)] 138 (0, 0))
theorem reach_bd {l : List ByteArray} (hd : DictOk l) (b : ByteArray) (at_ n : Nat) (hn : at_ + n ≤ b.size) : at_ + n ≤ reachM l b at_ n ∧ reachM l b at_ n ≤ b.size := by
  unfold reachM moreM
  split
  · rename_i h
    have := step_mng hd b (at_ + n) h _ (gnext_step l b (at_ + n))
    omega
  · omega

set_option maxRecDepth 100000 in
set_option maxHeartbeats 4000000 in
theorem fnext_any (g : Nat) (l : List ByteArray) (b : ByteArray) (at_ : Nat) (w : World) (h : DICT w g l) (hd : DictOk l) (hb : b.size ≤ 1024) (hat : at_ < b.size) :
    Calls Try.prog 71 #[.pointer (some ⟨g, 0, none⟩), .string b, .int .i64 at_] w fun e w' =>
      e = .returned (.tuple #[.int .i64 (fnext l b at_).1, .int .i64 (fnext l b at_).2]) ∧ Kp (fun _ => False) w w' := by
  have HD := Lib.hid h
  have HO := Lib.hid hd
  have hfew := hd.few
  clear h hd
  obtain ⟨X, HX⟩ : ∃ X, Hid (X = b.extract at_ b.size) := ⟨_, Lib.hid rfl⟩
  have hxs : X.size ≤ 1024 := by rw [HX.out, extract_size b _ _ (Nat.le_refl _)]; omega
  go_enter Try.func71, Try.ntmps71
  go_wp2_with fail
  obtain ⟨W0, hW0⟩ : ∃ W0, W0 = w.alloc (.cells #[.int .i64 0, .int .i64 0, .int .i64 0] 138) := ⟨_, rfl⟩
  obtain ⟨gf, HGF⟩ : ∃ gf, Hid (gf = w.heap.size) := ⟨_, Lib.hid rfl⟩
  have hgf : w.heap.size ≤ gf := by rw [HGF.out]; exact Nat.le_refl _
  have hch : CH W0 gf (0, 0, 0) := by rw [hW0, HGF.out]; exact blk_new w _
  have hk0 : Kp (fun _ => False) w W0 := by rw [hW0]; exact (Kp.refl _ w).alloc _
  have hgl : gf < W0.heap.size := by rw [hW0, HGF.out]; simp
  rw [← hW0, ← HGF.out]
  have HCH := Lib.hid hch
  have HK0 := Lib.hid hk0
  clear hch hk0 hW0
  refine (all_any g l W0 (HD.out.kp HK0.out) (by omega)).mono ?_
  rintro e w1 ⟨v, rfl, ho, hk⟩
  obtain ⟨A1, cap1, rfl⟩ := own_slice ho
  have HR := Lib.hid (RdS.own ho)
  have HOW := Lib.hid ho
  have HK := Lib.hid (HK0.out.trans hk (fun _ h => .inl h))
  have HC1 : Hid (CH w1 gf (0, 0, 0)) := hk.blk HCH.out (fun h => h)
  clear ho hk HCH
  have HNE : Hid (∀ bb o, A1 = some ⟨bb, o, none⟩ → bb ≠ gf) := by
    intro bb o h h2
    have h3 := (own_lt HOW.out (k := bb) (by rw [h]; rfl)).1
    omega
  go_wp2_with fail
  go_loopw [9, 25] (fun v i wr => ∃ k : Nat, k ≤ l.length ∧ i = .int .i64 k ∧ ∃ (c : Nat × Nat × Nat) (sg : Bool), v = .bool sg ∧ Hid ((c, sg) = flexP l b at_ 0 (l.take k) ((0, 0, 0), false)) ∧ Hid (CH wr gf c) ∧ Hid (Kp (fun i => i = gf) w1 wr)) (fun _ i _ => l.length - (intOf i).toNat)
  case atStart => exact ⟨0, Nat.zero_le _, rfl, (0, 0, 0), false, rfl, by show _ = _; simp [flexP], HC1, Kp.refl _ _⟩
  case round =>
    obtain ⟨k, hk, rfl, c, sg, rfl, HY, HCW, HKW⟩ := hrel
    have HKF := Lib.hid (HK.out.trans HKW.out (fun i h => .inr (by subst h; exact hgf)))
    by_cases hlt : k < l.length
    · obtain ⟨s, bb, o, hz, rfl, hc⟩ := HR.out.atS hlt
      have hbg := HNE.out _ _ rfl
      have hc := HKW.out.cell hc hbg
      have hss := HO.out.short s (List.mem_of_getElem? hz)
      have hs1 := HO.out.pos s (List.mem_of_getElem? hz)
      have HS := Lib.hid (flexP_snoc l b at_ l k s hz ((0, 0, 0), false))
      rw [← HX.out] at HS
      have hS := HS.out
      simp only [← HY.out] at hS
      have HS2 := Lib.hid hS
      clear hz HS hS
      obtain ⟨r, HRr⟩ : ∃ r, Hid (r = pfx X s) := ⟨_, Lib.hid rfl⟩
      rw [← HRr.out] at HS2
      go_wp2_with fail
      rw [← HX.out]
      refine (hasPrefix_any X s wr (by omega) (by omega)).mono ?_
      rintro e w' ⟨rfl, m2, rfl⟩
      rw [← HRr.out]
      cases r with
      | false =>
        go_wp2_with fail
        refine ⟨⟨k + 1, by omega, by simp, c, sg, rfl, ?_, HCW.out, HKW.out.drewN _⟩, by simp only [intOf]; omega⟩
        show _ = _
        rw [HS2.out, if_neg (by decide)]
      | true =>
        have hfit : at_ + s.size ≤ b.size := by
          have h1 := HRr.out.symm
          rw [HX.out] at h1
          exact (pfx_extract b s at_ (by omega) h1).1
        have hrb := reach_bd HO.out b at_ s.size hfit
        obtain ⟨R, HRR⟩ : ∃ R, Hid (R = reachM l b at_ s.size) := ⟨_, Lib.hid rfl⟩
        rw [← HRR.out] at hrb HS2
        obtain ⟨hrb1, hrb2⟩ := hrb
        obtain ⟨sg2, HSG⟩ : ∃ sg2, Hid (sg2 = (sg || decide (s.size = 1))) := ⟨_, Lib.hid rfl⟩
        rw [if_pos rfl, ← HSG.out] at HS2
        obtain ⟨c1, c2, c3⟩ := c
        obtain ⟨B, HB⟩ : ∃ B, Hid (B = betterB (0, s.size, R) (0, c2, c3)) := ⟨_, Lib.hid rfl⟩
        have hB : betterB (256 + k, s.size, R) (c1, c2, c3) = B := HB.out.symm
        rw [hB] at HS2
        clear hB
        have hsb : ((s.size : Int) == 1) = decide (s.size = 1) := by
          rw [Bool.eq_iff_iff]
          simp
          omega
        have HKG := Lib.hid (HKF.out.drewN m2)
        obtain ⟨W3, hW3⟩ : ∃ W3, W3 = wr.drewN m2 := ⟨_, rfl⟩
        rw [← hW3] at HKG
        have HC3 : Hid (CH W3 gf (c1, c2, c3)) := by rw [hW3]; exact HCW.out
        have HK3 : Hid (Kp (fun i => i = gf) w1 W3) := by rw [hW3]; exact HKW.out.drewN m2
        rw [← hW3]
        clear hW3 hc
        obtain ⟨q, hq⟩ : ∃ q, q = decide (s.size = 1) := ⟨_, rfl⟩
        rw [← hq] at hsb HSG
        clear hq
        cases sg <;> cases q
        all_goals
          go_wp2_with fail
          refine (reach_any g l b at_ s.size W3 (HD.out.kp HKG.out) HO.out hb hfit).mono ?_
          rintro e w5 ⟨rfl, hk5⟩
          rw [← HRR.out]
          have HC5 : Hid (CH w5 gf (c1, c2, c3)) := hk5.blk HC3.out (fun h => h)
          have HK5 := Lib.hid (HK3.out.trans hk5 (fun _ h => h.elim))
          have d0 : w5.cell? ⟨gf, 0, none⟩ = some (.int .i64 (c1 : Int)) := (blk_cell HC5.out 0).trans rfl
          have d1 : w5.cell? ⟨gf, 1, none⟩ = some (.int .i64 (c2 : Int)) := (blk_cell HC5.out 1).trans rfl
          have d2 : w5.cell? ⟨gf, 2, none⟩ = some (.int .i64 (c3 : Int)) := (blk_cell HC5.out 2).trans rfl
          have e0 : ∀ x, (w5.alloc x).cell? ⟨gf, 0, none⟩ = some (.int .i64 (c1 : Int)) := fun x => (blk_cell (blk_old HC5.out x) 0).trans rfl
          have e1 : ∀ x, (w5.alloc x).cell? ⟨gf, 1, none⟩ = some (.int .i64 (c2 : Int)) := fun x => (blk_cell (blk_old HC5.out x) 1).trans rfl
          have e2 : ∀ x, (w5.alloc x).cell? ⟨gf, 2, none⟩ = some (.int .i64 (c3 : Int)) := fun x => (blk_cell (blk_old HC5.out x) 2).trans rfl
          clear hk5 d0 d1 d2
          go_wp2_with fail
          obtain ⟨gn, HGN⟩ : ∃ gn, Hid (gn = w5.heap.size) := ⟨_, Lib.hid rfl⟩
          obtain ⟨W6, hW6⟩ : ∃ W6, W6 = w5.alloc (.cells #[.int .i64 (256 + (k : Int)), .int .i64 (s.size : Int), .int .i64 (R : Int)] 138) := ⟨_, rfl⟩
          have HN6 : Hid (W6.heap[gn]? = some (.cells #[.int .i64 (256 + (k : Int)), .int .i64 (s.size : Int), .int .i64 (R : Int)] 138 (0, 0))) := by rw [hW6, HGN.out]; exact blk_new w5 _
          have HC6 : Hid (CH W6 gf (c1, c2, c3)) := by rw [hW6]; exact blk_old HC5.out _
          have HK6 : Hid (Kp (fun i => i = gf) w1 W6) := by rw [hW6]; exact HK5.out.alloc _
          rw [← HGN.out, ← hW6]
          clear hW6 e0 e1 e2
          refine (better_any _ _ s.size R c2 c3 W6).mono ?_
          rintro e w7 ⟨rfl, hk7⟩
          rw [← HB.out]
          have HC7 : Hid (CH w7 gf (c1, c2, c3)) := hk7.blk HC6.out (fun h => h)
          have HN7 := Lib.hid (hk7.blk HN6.out (fun h => h))
          have HK7 := Lib.hid (HK6.out.trans hk7 (fun _ h => h.elim))
          have d0 : w7.cell? ⟨gn, 0, none⟩ = some (.int .i64 (256 + (k : Int))) := (blk_cell HN7.out 0).trans rfl
          have d1 : w7.cell? ⟨gn, 1, none⟩ = some (.int .i64 (s.size : Int)) := (blk_cell HN7.out 1).trans rfl
          have d2 : w7.cell? ⟨gn, 2, none⟩ = some (.int .i64 (R : Int)) := (blk_cell HN7.out 2).trans rfl
          have e0 : w7.cell? ⟨gf, 0, none⟩ = some (.int .i64 (c1 : Int)) := (blk_cell HC7.out 0).trans rfl
          have e1 : w7.cell? ⟨gf, 1, none⟩ = some (.int .i64 (c2 : Int)) := (blk_cell HC7.out 1).trans rfl
          have e2 : w7.cell? ⟨gf, 2, none⟩ = some (.int .i64 (c3 : Int)) := (blk_cell HC7.out 2).trans rfl
          have f0 : w7.frozen? ⟨gf, 0, none⟩ = false := blk_free HC7.out 0
          have f1 : w7.frozen? ⟨gf, 1, none⟩ = false := blk_free HC7.out 1
          have f2 : w7.frozen? ⟨gf, 2, none⟩ = false := blk_free HC7.out 2
          clear hk7
          cases B with
          | false =>
            go_wp2_with fail
            refine ⟨⟨k + 1, by omega, by simp, (c1, c2, c3), sg2, ?_, ?_, HC7.out, HK7.out⟩, by simp only [intOf]; omega⟩
            · rw [HSG.out]; rfl
            · show _ = _
              rw [HS2.out, if_neg (by decide)]
          | true =>
            go_wp2_with fail
            refine ⟨⟨k + 1, by omega, by simp, (256 + k, s.size, R), sg2, ?_, ?_, ?_, ?_⟩, by simp only [intOf]; omega⟩
            · rw [HSG.out]; rfl
            · show _ = _
              rw [HS2.out]
              simp
            · show CH _ _ _
              simpa [CH] using blk_set (blk_set (blk_set HC7.out 0 (.int .i64 (256 + (k : Int)))) 1 (.int .i64 (s.size : Int))) 2 (.int .i64 (R : Int))
            · exact ((HK7.out.setCell (.inl rfl) _).setCell (.inl rfl) _).setCell (.inl rfl) _
    · obtain rfl : k = l.length := by omega
      have hy := HY.out
      rw [List.take_length] at hy
      have HY2 := Lib.hid hy
      clear hy HY hlt
      obtain ⟨c1, c2, c3⟩ := c
      have hrb := reach_bd HO.out b at_ 1 (by omega)
      obtain ⟨R, HRR⟩ : ∃ R, Hid (R = reachM l b at_ 1) := ⟨_, Lib.hid rfl⟩
      rw [← HRR.out] at hrb
      obtain ⟨hrb1, hrb2⟩ := hrb
      have hi0 : (0 : Int) ≤ (at_ : Int) := by omega
      have hi1 : (at_ : Int) < (b.size : Int) := by omega
      have hwb : IntKind.i64.wrap (b[at_].toNat : Int) = (byteAt b at_ : Int) := wrap_byteK b at_ hat
      go_wp2_with fail
      go_cut [13] (fun p wx => ∃ gc, p = .pointer (some ⟨gc, 0, none⟩) ∧ Hid (CH wx gc (byteAt b at_, 1, R)) ∧ Hid (Kp (fun _ => False) wr wx))
      case first =>
        --[reg
        go_region_law (refine step_call (by rfl) 95 _ Try.func95 (by kernel_rfl) (by kernel_rfl) _ _ (by rfl) [.pointer (some ⟨g, 0, none⟩), .string b, .int .i64 (at_ : Int), .int .i64 ((1 : Nat) : Int)] (by rfl) ?_; refine (reach_any g l b at_ 1 _ (by first | exact HD.out.kp HKF.out.drew | exact HD.out.kp (HKF.out.drew.alloc _) | exact HD.out.kp (HKF.out.alloc _).drew) HO.out hb (by omega)).mono ?_; rintro e w5 ⟨rfl, hk5⟩; refine ⟨_, rfl, ?_⟩; rw [← HRR.out]; (first | (have hb5 : w5.heap[wr.heap.size]? = some (.cells #[.int .i64 0, .int .i64 0, .int .i64 0] 138 (0, 0)) := hk5.blk (blk_new_drew wr (.cells #[.int .i64 0, .int .i64 0, .int .i64 0] 138)) (fun h => h); have q0 : w5.cell? ⟨wr.heap.size, 0, none⟩ = some (.int .i64 0) := (blk_cell hb5 0).trans rfl; have q1 : w5.cell? ⟨wr.heap.size, 1, none⟩ = some (.int .i64 0) := (blk_cell hb5 1).trans rfl; have q2 : w5.cell? ⟨wr.heap.size, 2, none⟩ = some (.int .i64 0) := (blk_cell hb5 2).trans rfl; have p0 : w5.frozen? ⟨wr.heap.size, 0, none⟩ = false := blk_free hb5 0; have p1 : w5.frozen? ⟨wr.heap.size, 1, none⟩ = false := blk_free hb5 1; have p2 : w5.frozen? ⟨wr.heap.size, 2, none⟩ = false := blk_free hb5 2; have HB5 := Lib.hid hb5; clear hb5) | skip); have HK5 := Lib.hid hk5; clear hk5)
        all_goals
          go_wp2_with fail
          go_meet
          first
            | exact ⟨_, rfl, by show CH _ _ _; simpa [CH] using blk_set (blk_set (blk_set HB5.out 0 (.int .i64 (byteAt b at_ : Int))) 1 (.int .i64 1)) 2 (.int .i64 (R : Int)), ((((((Kp.refl (fun _ => False) wr).alloc _).drew.trans HK5.out (fun _ h => .inl h)).setCell (.inr (Nat.le_refl _)) _).setCell (.inr (Nat.le_refl _)) _).setCell (.inr (Nat.le_refl _)) _)⟩
            | exact ⟨_, rfl, blk_new w5 _, ((Kp.refl (fun _ => False) wr).drew.trans HK5.out (fun _ h => .inl h)).alloc _⟩
        --]reg
      case rest =>
        obtain ⟨gc, rfl, HGC, HKX⟩ := hcut
        have HK8 := Lib.hid (HKF.out.trans HKX.out (fun _ h => .inl h))
        have HC8 : Hid (CH wc gf (c1, c2, c3)) := HKX.out.blk HCW.out (fun h => h)
        have HF : Hid (fnext l b at_ = if sg = false ∧ betterB (byteAt b at_, 1, R) (c1, c2, c3) = true then (byteAt b at_, 1) else (c1, c2)) := by
          show _ = _
          unfold fnext
          rw [← HY2.out, HRR.out]
        have d0 : wc.cell? ⟨gc, 0, none⟩ = some (.int .i64 (byteAt b at_ : Int)) := (blk_cell HGC.out 0).trans rfl
        have d1 : wc.cell? ⟨gc, 1, none⟩ = some (.int .i64 1) := (blk_cell HGC.out 1).trans rfl
        have d2 : wc.cell? ⟨gc, 2, none⟩ = some (.int .i64 (R : Int)) := (blk_cell HGC.out 2).trans rfl
        have e0 : wc.cell? ⟨gf, 0, none⟩ = some (.int .i64 (c1 : Int)) := (blk_cell HC8.out 0).trans rfl
        have e1 : wc.cell? ⟨gf, 1, none⟩ = some (.int .i64 (c2 : Int)) := (blk_cell HC8.out 1).trans rfl
        have e2 : wc.cell? ⟨gf, 2, none⟩ = some (.int .i64 (c3 : Int)) := (blk_cell HC8.out 2).trans rfl
        clear hwb
        cases sg with
        | true =>
          go_wp2_with fail
          go_quiet (fail)
          go_wp2_with fail
          go_ret2
          exact ⟨by rw [HF.out]; simp, HK8.out.drewN _⟩
        | false =>
          obtain ⟨B, HB⟩ : ∃ B, Hid (B = betterB (0, 1, R) (0, c2, c3)) := ⟨_, Lib.hid rfl⟩
          have hB : betterB (byteAt b at_, 1, R) (c1, c2, c3) = B := HB.out.symm
          rw [hB] at HF
          clear hB
          go_wp2_with fail
          have hbt := better_any (byteAt b at_ : Int) (c1 : Int) 1 R c2 c3 wc
          rw [← HB.out] at hbt
          refine hbt.mono ?_
          clear hbt
          rintro e w9 ⟨rfl, hk9⟩
          have HC9 : Hid (CH w9 gf (c1, c2, c3)) := hk9.blk HC8.out (fun h => h)
          have HGC9 : Hid (CH w9 gc (byteAt b at_, 1, R)) := hk9.blk HGC.out (fun h => h)
          have HK9 := Lib.hid (HK8.out.trans hk9 (fun _ h => h.elim))
          clear hk9 d0 d1 d2 e0 e1 e2
          have d0 : w9.cell? ⟨gc, 0, none⟩ = some (.int .i64 (byteAt b at_ : Int)) := (blk_cell HGC9.out 0).trans rfl
          have d1 : w9.cell? ⟨gc, 1, none⟩ = some (.int .i64 1) := (blk_cell HGC9.out 1).trans rfl
          have d2 : w9.cell? ⟨gc, 2, none⟩ = some (.int .i64 (R : Int)) := (blk_cell HGC9.out 2).trans rfl
          have e0 : w9.cell? ⟨gf, 0, none⟩ = some (.int .i64 (c1 : Int)) := (blk_cell HC9.out 0).trans rfl
          have e1 : w9.cell? ⟨gf, 1, none⟩ = some (.int .i64 (c2 : Int)) := (blk_cell HC9.out 1).trans rfl
          have e2 : w9.cell? ⟨gf, 2, none⟩ = some (.int .i64 (c3 : Int)) := (blk_cell HC9.out 2).trans rfl
          have f0 : w9.frozen? ⟨gf, 0, none⟩ = false := blk_free HC9.out 0
          have f1 : w9.frozen? ⟨gf, 1, none⟩ = false := blk_free HC9.out 1
          have f2 : w9.frozen? ⟨gf, 2, none⟩ = false := blk_free HC9.out 2
          cases B with
          | false =>
            go_wp2_with fail
            go_quiet (fail)
            go_wp2_with fail
            go_ret2
            exact ⟨by rw [HF.out]; simp, HK9.out.drewN _⟩
          | true =>
            go_wp2_with fail
            go_quiet (fail)
            go_wp2_with fail
            go_ret2
            exact ⟨by rw [HF.out]; simp, (((HK9.out.setCell (.inr hgf) _).setCell (.inr hgf) _).setCell (.inr hgf) _).drewN _⟩

/-- The path that flex takes. -/
def fpath (l : List ByteArray) (b : ByteArray) : List (Nat × Nat) := walkP (fnext l b) b.size b.size 0
theorem fpath_ok {l : List ByteArray} (hd : DictOk l) (b : ByteArray) : Path l b 0 (fpath l b) := walkP_ok hd b (fnext l b) (fun at_ _ => fnext_step hd b at_) b.size 0 (Nat.zero_le _) (Nat.le_refl _)

set_option maxRecDepth 100000 in
set_option maxHeartbeats 2000000 in
theorem fparse_any (g : Nat) (l : List ByteArray) (b : ByteArray) (w : World) (h : DICT w g l) (hd : DictOk l) (hb : b.size ≤ 1024) :
    Calls Try.prog 35 #[.pointer (some ⟨g, 0, none⟩), .string b] w fun e w' =>
      ∃ v, e = .returned v ∧ w'.ownsRow w.heap.size 3 1 v (fpath l b).length (ints .i64 (toks (fpath l b))) ∧ Kp (fun _ => False) w w' := by
  have HD := Lib.hid h
  have HO := Lib.hid hd
  have hfew := hd.few
  clear h hd
  go_enter Try.func35, Try.ntmps35
  go_wp2_with fail
  go_loopw [5, 6] (fun v i wr => ∃ (at_ : Nat) (acc : List (Nat × Nat)), at_ ≤ b.size ∧ i = .int .i64 at_ ∧ acc.length ≤ at_ ∧ ∃ v2, v2 = v ∧ Hid (WalkRel (fnext l b) b.size at_ acc v2 w wr)) (fun _ i _ => b.size - (intOf i).toNat)
  case atStart => exact ⟨0, [], Nat.zero_le _, rfl, Nat.zero_le _, _, rfl, ⟨b.size, rfl, by omega⟩, World.ownsRow_nil _ _ _ _, Kp.refl _ _⟩
  case round =>
    obtain ⟨at_, acc, hat, rfl, hacc, v2, rfl, HW⟩ := hrel
    obtain ⟨A1, cap1, rfl⟩ := own_slice HW.out.2.1
    by_cases hlt : at_ < b.size
    · obtain ⟨x, HX⟩ : ∃ x, Hid (x = fnext l b at_) := ⟨_, Lib.hid rfl⟩
      obtain ⟨_, hx1, hx2, hx3, hx4⟩ := step_mng HO.out b at_ hlt _ (fnext_step HO.out b at_)
      rw [← HX.out] at hx1 hx2 hx3 hx4
      go_wp2_with fail
      refine (fnext_any g l b at_ wr (HD.out.kp HW.out.2.2) HO.out hb hlt).mono ?_
      rintro e w1 ⟨rfl, hk⟩
      rw [← HX.out]
      have HK := Lib.hid hk
      have HO1 := Lib.hid (hk.own HW.out.2.1 (fun _ _ h => h))
      have HK1 := Lib.hid (HW.out.2.2.trans hk (fun _ h => .inl h))
      clear hk
      go_wp2_with (at_builtin; refine app1 w.heap.size rfl _ _ 30 3 (.int .i64 0) 8 rfl Try.underlying30 info_int2 rfl (by decide) (.slice A1 acc.length cap1) _ _ (.int .i64 (x.1 : Int)) rfl rfl rfl HO1.out HK1.out.size (by omega) ?_; intro v3 w3 hown hgrow hfresh; have HG := Lib.hid hgrow; have HO3 := Lib.hid hown; clear hgrow hown hfresh)
      refine ⟨⟨at_ + x.2, acc ++ [x], by omega, by simp, by simp; omega, _, rfl, ?_, ?_, HK1.out.grown HG.out (fun i hi => .inr (own_lt HO1.out hi).1)⟩, by simp only [intOf]; omega⟩
      · have := walk_next HW.out.1 hlt (by rw [← HX.out]; exact hx1)
        rw [← HX.out] at this
        exact this
      · simpa [ints, toks] using HO3.out
    · go_wp2_with fail
      go_ret
      have h1 := walk_done HW.out.1 hlt
      have h2 : fpath l b = acc := h1
      rw [h2]
      exact ⟨_, rfl, HW.out.2.1, HW.out.2.2⟩

end Go.Proofs.Ytbhjckhhmcfpfaa

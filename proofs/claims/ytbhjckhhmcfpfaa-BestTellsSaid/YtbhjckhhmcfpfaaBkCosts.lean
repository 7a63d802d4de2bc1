/- The book's functions on Costs: same, mark, copy, keep, still, put, grow, marked. -/
import Derived.Test.YtbhjckhhmcfpfaaBkInts
namespace Go.Proofs.Ytbhjckhhmcfpfaa
open Go.RowKit
open Fb (fb fb_add fb_order)
attribute [local go_sem] run_store_complex
set_option linter.unusedVariables false
set_option linter.unusedSimpArgs false

/-- What may stand in such a list. -/
def GoodCosts (x : Value) : Prop := ∃ a b, x = .complex .f64 a b ∧ (FloatKind.f64.format.order a a == some Ordering.eq) = true ∧ (FloatKind.f64.format.order b b == some Ordering.eq) = true
theorem GoodCosts.one {x : Value} (h : GoodCosts x) : x.oneCell' = true := by obtain ⟨a, b, rfl, _⟩ := h; rfl
/-- The k-th mark of the i-th list. -/
def mkCosts (i k : Nat) : Value := .complex .f64 (floatOfInt .f64 (-1000 * (i : Int) - (k : Int) - 1)) 4619567317775286272
theorem markEx : ((List.range 1901).all fun n => (FloatKind.f64.format.order (floatOfInt .f64 (-(n : Int) - 1)) (floatOfInt .f64 (-(n : Int) - 1)) == some Ordering.eq)) = true := by decide +kernel
theorem mkCosts_good (i k : Nat) (hi : i < 2) (hk : k < 900) : GoodCosts (mkCosts i k) := by
  refine ⟨_, _, rfl, ?_, by decide +kernel⟩
  have h := List.all_eq_true.1 markEx (1000 * i + k) (List.mem_range.2 (by omega))
  have e : -(((1000 * i + k : Nat)) : Int) - 1 = -1000 * (i : Int) - (k : Int) - 1 := by omega
  rw [e] at h
  exact h
/-- Marks. -/
def marksCosts (i from_ n : Nat) : List Value := (List.range n).map fun j => mkCosts i (from_ + j)
theorem marksCosts_len (i from_ n : Nat) : (marksCosts i from_ n).length = n := by simp [marksCosts]
theorem marksCosts_snoc (i from_ n : Nat) : marksCosts i from_ (n + 1) = marksCosts i from_ n ++ [mkCosts i (from_ + n)] := by simp [marksCosts, List.range_succ]
theorem marksCosts_add (i n m : Nat) : marksCosts i 0 (n + m) = marksCosts i 0 n ++ marksCosts i n m := by
  induction m with
  | zero => simp [marksCosts]
  | succ m ih =>
    rw [← Nat.add_assoc, marksCosts_snoc, ih, marksCosts_snoc, List.append_assoc, Nat.zero_add]
theorem marksCosts_get (i from_ n j : Nat) (h : j < n) : (marksCosts i from_ n)[j]? = some (mkCosts i (from_ + j)) := by simp [marksCosts, h]
theorem marksCosts_good (i from_ n : Nat) (hi : i < 2) (hn : from_ + n ≤ 900) : ∀ x, x ∈ marksCosts i from_ n → GoodCosts x := by
  intro x hx
  obtain ⟨j, hj, rfl⟩ := List.mem_map.1 hx
  have := List.mem_range.1 hj
  exact mkCosts_good i _ hi (by omega)

set_option maxRecDepth 100000 in
set_option maxHeartbeats 1000000 in
theorem sameCosts_refl (A1 A2 : Option Addr) (cap1 cap2 : Nat) (xs : List Value) (w : World) (hr1 : RdS w A1 xs) (hr2 : RdS w A2 xs) (hl : xs.length ≤ 1000000) (hg : ∀ x, x ∈ xs → GoodCosts x) :
    Calls Try.prog 84 #[.slice A1 xs.length cap1, .slice A2 xs.length cap2] w fun e w' => e = .returned (.bool true) ∧ Dr w w' := by
  have HR1 := Lib.hid hr1
  have HR2 := Lib.hid hr2
  have HG := Lib.hid hg
  clear hr1 hr2 hg
  go_enter Try.func84, Try.ntmps84
  go_wp2_with fail
  go_loopw [5] (fun i wr => ∃ k : Nat, k ≤ xs.length ∧ i = .int .i64 k ∧ Dr w wr) (fun i _ => xs.length - (intOf i).toNat)
  case atStart => exact ⟨0, Nat.zero_le _, rfl, Dr.refl _⟩
  case round =>
    obtain ⟨k, hk, rfl, m, rfl⟩ := hrel
    by_cases hlt : k < xs.length
    · obtain ⟨x, hx⟩ : ∃ x, xs[k]? = some x := ⟨xs[k], List.getElem?_eq_getElem hlt⟩
      obtain ⟨b1, o1, rfl, hc1⟩ := HR1.out k x hx
      obtain ⟨b2, o2, rfl, hc2⟩ := HR2.out k x hx
      have hgx := HG.out x (List.mem_of_getElem? hx)
      clear hx
      obtain ⟨a, b, rfl, ha, hb⟩ := hgx
      go_wp2_with fail
      go_quiet (fail)
      go_wp2_with fail
      refine ⟨⟨k + 1, by omega, by simp, ⟨_, rfl⟩⟩, by simp only [intOf]; omega⟩
    · go_wp2_with fail
      go_ret
      exact ⟨rfl, ⟨_, rfl⟩⟩

theorem infoCosts : (Try.prog.info? 64).map (fun i => (i.zero, i.size, i.bytes)) = some (some (.complex .f64 0 0), 1, 16) := by kernel_rfl
theorem infoSCosts : (Try.prog.info? 50).map (fun i => (i.zero, i.size, i.bytes)) = some (some (.slice none 0 0), 1, 24) := by kernel_rfl

set_option maxRecDepth 100000 in
set_option maxHeartbeats 1000000 in
theorem markCosts_any (i from_ n : Nat) (w : World) (hi : i < 2) (hn : from_ + n ≤ 900) :
    Calls Try.prog 89 #[.int .i64 i, .int .i64 from_, .int .i64 n] w fun e w' => ∃ v, e = .returned v ∧ w'.ownsRow w.heap.size 64 1 v n (marksCosts i from_ n) ∧ Kp (fun _ => False) w w' := by
  go_enter Try.func89, Try.ntmps89
  go_wp2_with fail
  go_loopw [7, 8] (fun v k wr => ∃ j : Nat, j ≤ n ∧ k = .int .i64 ((from_ : Int) + j) ∧ ∃ v2, v2 = v ∧ Hid (wr.ownsRow w.heap.size 64 1 v2 j (marksCosts i from_ j)) ∧ Hid (Kp (fun _ => False) w wr)) (fun _ k _ => (from_ + n : Int).toNat - (intOf k).toNat)
  case atStart => exact ⟨0, Nat.zero_le _, by simp, _, rfl, World.ownsRow_nil _ _ _ _, Kp.refl _ _⟩
  case round =>
    obtain ⟨j, hj, rfl, v2, rfl, HO, HK⟩ := hrel
    obtain ⟨A1, cap1, rfl⟩ := own_slice HO.out
    by_cases hlt : j < n
    · have hi2 : -1000000 ≤ -1000000 * (i : Int) := by omega
      go_wp2_with (at_builtin; refine app1 w.heap.size rfl _ _ 50 64 (.complex .f64 0 0) 16 rfl Try.underlying50 infoCosts rfl (by decide) (.slice A1 j cap1) _ _ (mkCosts i (from_ + j)) rfl rfl rfl HO.out HK.out.size (by omega) ?_; intro v3 w3 hown hgrow hfresh; have HG := Lib.hid hgrow; have HO3 := Lib.hid hown; clear hgrow hown hfresh)
      refine ⟨⟨j + 1, by omega, by simp [Int.add_assoc], _, rfl, ?_, HK.out.grown HG.out (fun i hi => .inr (own_lt HO.out hi).1)⟩, by simp only [intOf]; omega⟩
      rw [marksCosts_snoc]
      exact HO3
    · go_wp2_with fail
      go_ret
      obtain rfl : j = n := by omega
      exact ⟨_, rfl, HO.out, HK.out⟩

set_option maxRecDepth 100000 in
set_option maxHeartbeats 1000000 in
theorem copyCosts_any (A : Option Addr) (cap0 : Nat) (xs : List Value) (w : World) (hr : RdS w A xs) (hA : A = none → xs.length = 0 ∧ cap0 = 0) (hl : xs.length ≤ 1000000) (hg : ∀ x, x ∈ xs → GoodCosts x) :
    Calls Try.prog 44 #[.slice A xs.length cap0] w fun e w' => ∃ v, e = .returned v ∧ w'.ownsRow w.heap.size 64 1 v xs.length xs ∧ Kp (fun _ => False) w w' := by
  have HR := Lib.hid hr
  have HA := Lib.hid hA
  have HG := Lib.hid (fun x hx => (hg x hx).one)
  clear hr hA hg
  go_enter Try.func44, Try.ntmps44
  go_wp2_with (at_builtin; refine appN w.heap.size rfl _ _ 50 64 (.complex .f64 0 0) 1 16 rfl Try.underlying50 infoCosts rfl (by decide) (by decide) (.slice none 0 0) 0 [] A xs.length cap0 xs rfl rfl HA.out HR.out (by rw [Nat.mul_one]) HG.out (World.ownsRow_nil _ _ _ _) (Nat.le_refl _) (by omega) ?_; intro v3 w3 hown hgrow hfresh; have HG3 := Lib.hid hgrow; have HO3 := Lib.hid hown; clear hgrow hown hfresh)
  go_ret
  have := HO3.out
  rw [Nat.zero_add, List.nil_append] at this
  exact ⟨v3, rfl, this, (Kp.refl _ w).grown HG3.out (fun k hk => by simp [Value.ownBlock] at hk)⟩

/-- The book's two outer lists of this kind. -/
structure BkCosts (w : World) (base gB : Nat) (cs : Array Value) (I W : Value) (rs ws : List Value) : Prop where
  book : w.heap[gB]? = some (.cells cs 59 (0, 0))
  hI : cs[6]? = some I
  hW : cs[7]? = some W
  rI : w.ownsRow base 50 1 I rs.length rs
  rW : w.ownsRow base 50 1 W ws.length ws
  apart : ∀ k, I.ownBlock = some k → W.ownBlock ≠ some k

set_option maxRecDepth 100000 in
set_option maxHeartbeats 4000000 in
theorem bookCosts_any (base gB : Nat) (cs : Array Value) (I W : Value) (rs ws : List Value) (A : Option Addr) (cap0 : Nat) (xs : List Value) (b0 : Nat) (w : World) (hB : BkCosts w base gB cs I W rs ws) (hbase : base ≤ gB) (ho : w.ownsRow b0 64 1 (.slice A xs.length cap0) xs.length xs) (hl : xs.length ≤ 1000000) (hg : ∀ x, x ∈ xs → GoodCosts x) (hrs : rs.length ≤ 100) (hws : ws.length ≤ 100) :
    Calls Try.prog 25 #[.pointer (some ⟨gB, 0, none⟩), .slice A xs.length cap0] w fun e w' => ∃ I' W' q, e = .returned (.tuple #[]) ∧
      BkCosts w' base gB ((cs.setIfInBounds 6 I').setIfInBounds 7 W') I' W' (rs ++ [.slice A xs.length cap0]) (ws ++ [q]) ∧ w'.ownsRow w.heap.size 64 1 q xs.length xs ∧ Kp (fun i => i = gB ∨ I.ownBlock = some i ∨ W.ownBlock = some i) w w' := by
  have HB := Lib.hid hB
  have HO := Lib.hid ho
  have HG := Lib.hid hg
  obtain ⟨AI, capI, rfl⟩ := own_slice hB.rI
  obtain ⟨AW, capW, rfl⟩ := own_slice hB.rW
  have hc0 : w.cell? ⟨gB, 6, none⟩ = some (.slice AI rs.length capI) := (blk_cell hB.book 6).trans hB.hI
  have hf0 : w.frozen? ⟨gB, 6, none⟩ = false := blk_free hB.book 6
  have hlt : gB < w.heap.size := blk_lt hB.book
  have hne0 := own_ne hB.rI hB.book (by decide)
  have HNE0 := Lib.hid hne0
  have HN1 := Lib.hid (own_ne hB.rW hB.book (by decide))
  clear hB ho hg hne0
  go_enter Try.func25, Try.ntmps25
  go_wp2_with (at_builtin; refine app1 base rfl _ _ 56 50 (.slice none 0 0) 24 rfl Try.underlying56 infoSCosts rfl (by decide) (.slice AI rs.length capI) rs.length rs (.slice A xs.length cap0) rfl rfl rfl HB.out.rI (by omega) (by omega) ?_; intro v3 w3 hown hgrow hfresh; obtain ⟨A3, cap3, rfl⟩ := own_slice hown; have hb3 : w3.heap[gB]? = _ := (hgrow.block gB hlt (fun h => HNE0.out h.symm)).trans HB.out.book; have hc3 : w3.cell? ⟨gB, 6, none⟩ = some (.slice AI rs.length capI) := (blk_cell hb3 6).trans HB.out.hI; have hf3 : w3.frozen? ⟨gB, 6, none⟩ = false := blk_free hb3 6; have HB3 := Lib.hid hb3; have HO3 := Lib.hid hown; have HG3 := Lib.hid hgrow; have HF3 := Lib.hid hfresh; clear hb3 hown hgrow hfresh)
  obtain ⟨W5, hW5⟩ : ∃ W5, W5 = w3.setCell ⟨gB, 6, none⟩ (.slice A3 (rs.length + 1) cap3) := ⟨_, rfl⟩
  have hk5 : Kp (fun i => i = gB ∨ (Value.slice AI rs.length capI).ownBlock = some i) w W5 := by
    rw [hW5]
    exact ((Kp.refl (fun i => i = gB ∨ (Value.slice AI rs.length capI).ownBlock = some i) w).grown HG3.out (fun k hk => .inl (.inr hk))).setCell (.inl (.inl rfl)) _
  have hb5 : W5.heap[gB]? = some (.cells (cs.setIfInBounds 6 (.slice A3 (rs.length + 1) cap3)) 59 (0, 0)) := by rw [hW5]; exact blk_set HB3.out 6 _
  have hI5 : W5.ownsRow base 50 1 (.slice A3 (rs.length + 1) cap3) (rs.length + 1) (rs ++ [.slice A xs.length cap0]) := by
    rw [hW5]
    have hset : Kp (fun i => i = gB) w3 (w3.setCell ⟨gB, 6, none⟩ (.slice A3 (rs.length + 1) cap3)) := (Kp.refl (fun i => i = gB) w3).setCell (.inl rfl) _
    exact hset.own HO3.out (fun j hj e => own_ne HO3.out HB3.out (by decide) (e ▸ hj))
  have hW5' : W5.ownsRow base 50 1 (.slice AW ws.length capW) ws.length ws := hk5.own HB.out.rW (fun k hk h => h.elim (fun h => HN1.out (h ▸ hk)) (fun h => HB.out.apart k h hk))
  have ho5 : W5.ownsRow b0 64 1 (.slice A xs.length cap0) xs.length xs := hk5.own HO.out (fun k hk h => by
    obtain ⟨cur, hh⟩ := own_blk HO.out hk
    rcases h with rfl | h
    · exact blk_ne hh HB.out.book (by decide) rfl
    · obtain ⟨cur2, hh2⟩ := own_blk HB.out.rI h
      exact blk_ne hh hh2 (by decide) rfl)
  have hcW : cs[7]? = some (.slice AW ws.length capW) := HB.out.hW
  have hc5 : W5.cell? ⟨gB, 7, none⟩ = some (.slice AW ws.length capW) := by
    rw [blk_cell hb5 7]
    simpa using hcW
  have HI5 := Lib.hid hI5
  have HW5 := Lib.hid hW5'
  have HO5 := Lib.hid ho5
  have HK5 := Lib.hid hk5
  have HB5 := Lib.hid hb5
  have hsz5 := hk5.size
  have HIW : Hid (∀ k, (Value.slice A3 (rs.length + 1) cap3).ownBlock = some k → (Value.slice AW ws.length capW).ownBlock ≠ some k) := by
    refine Lib.hid fun k hk h => ?_
    rcases HF3.out k hk with h2 | h2
    · exact HB.out.apart k h2 h
    · have := (own_lt HB.out.rW h).2
      omega
  have HIL : Hid (∀ k, (Value.slice A3 (rs.length + 1) cap3).ownBlock = some k → k < W5.heap.size) := Lib.hid (fun k hk => (own_lt HI5.out hk).2)
  rw [← hW5]
  clear hW5 hk5 hb5 hI5 hW5' ho5 hcW hc3 hf3
  go_region_law (first
    | (refine step_call (by rfl) 44 _ Try.func44 (by kernel_rfl) (by kernel_rfl) _ _ (by rfl) [.slice A xs.length cap0] (by rfl) ?_; refine (copyCosts_any A cap0 xs _ (RdS.ownS (HO5.out.drew)) (own_nil HO5.out) hl HG.out).mono ?_; rintro e w1 ⟨q, rfl, hq, hk1⟩; obtain ⟨Aq, capq, rfl⟩ := own_slice hq; refine ⟨_, rfl, ?_⟩; have hb1 : w1.heap[gB]? = _ := hk1.blk HB5.out (fun h => h); have hc1 : w1.cell? ⟨gB, 7, none⟩ = some (.slice AW ws.length capW) := (hk1.cell (w := W5.drew) hc5 (fun h => h)); have hc1a : ∀ x, (w1.alloc x).cell? ⟨gB, 7, none⟩ = some (.slice AW ws.length capW) := (fun x => (World.cell?_of_block (Below.heap_alloc w1 x gB (blk_lt hb1))).trans hc1); have HQ := Lib.hid hq; have HK1 : Hid (Kp (fun i => i = gB ∨ (Value.slice AI rs.length capI).ownBlock = some i) w w1) := HK5.out.drew.trans hk1 (fun _ h => h.elim); have HO1 : Hid (w1.ownsRow base 50 1 (.slice AW ws.length capW) ws.length ws) := hk1.own HW5.out (fun _ _ h => h); have HI1 : Hid (w1.ownsRow base 50 1 (.slice A3 (rs.length + 1) cap3) (rs.length + 1) (rs ++ [.slice A xs.length cap0])) := hk1.own HI5.out (fun _ _ h => h); have HB1 := Lib.hid hb1; have HS1 : Hid (W5.heap.size ≤ w1.heap.size) := hk1.size; clear hk1 hb1 hq)
    | (refine sapp1 base (by rfl) _ _ 56 50 (.slice none 0 0) 24 (by rfl) Try.underlying56 infoSCosts rfl (by decide) (.slice AW ws.length capW) ws.length _ _ (by rfl) _ (by rfl) rfl ((HO1.out.alloc _).drew) (blk_new_drew w1 _) (by simp; have := HK1.out.size; omega) (by omega) ?_; intro v2 w2 hown hgrow hfresh; obtain ⟨A2, c2, rfl⟩ := own_slice hown; have hb2 : w2.heap[gB]? = _ := (hgrow.block gB (Nat.lt_of_lt_of_le (blk_lt HB1.out) (le_alloc_drew _ _)) (fun h => own_ne HO1.out HB1.out (by decide) h.symm)).trans (blk_old HB1.out _); have hc2 : w2.cell? ⟨gB, 7, none⟩ = some (.slice AW ws.length capW) := (World.cell?_of_block (hgrow.block gB (Nat.lt_of_lt_of_le (blk_lt HB1.out) (le_alloc_drew _ _)) (fun h => own_ne HO1.out HB1.out (by decide) h.symm))).trans (hc1a _); have hf2 : w2.frozen? ⟨gB, 7, none⟩ = false := blk_free hb2 7; have HB2 := Lib.hid hb2; have HO2 := Lib.hid hown; have HG2 := Lib.hid hgrow; have HF2 := Lib.hid hfresh; clear hb2 hown hgrow hfresh))
  all_goals
    go_wp2_with fail
    go_end0
    have hset : Kp (fun i => i = gB) w2 (w2.setCell ⟨gB, 7, none⟩ (.slice A2 (ws.length + 1) c2)) := (Kp.refl (fun i => i = gB) w2).setCell (.inl rfl) _
    have hal : Kp (fun i => (Value.slice AW ws.length capW).ownBlock = some i) w1 w2 := ((Kp.refl (fun i => (Value.slice AW ws.length capW).ownBlock = some i) w1).alloc _).grown HG2.out (fun k hk => .inl hk)
    have hi2 := hal.own HI1.out (fun k hk h => HIW.out k hk h)
    have hq2 := hal.own HQ.out (fun k hk h => by
      obtain ⟨cur, hh⟩ := own_blk HQ.out hk
      obtain ⟨cur2, hh2⟩ := own_blk HO1.out h
      exact blk_ne hh hh2 (by decide) rfl)
    have hs1 : 6 < cs.size := (Array.getElem?_eq_some_iff.1 HB.out.hI).1
    have hs2 : 7 < cs.size := (Array.getElem?_eq_some_iff.1 HB.out.hW).1
    refine ⟨.slice A3 (rs.length + 1) cap3, .slice A2 (ws.length + 1) c2, .slice Aq xs.length capq, rfl, ⟨blk_set HB2.out 7 _, by simp [hs1], by simp [hs2], ?_, ?_, ?_⟩, ?_, ?_⟩
    · have := hset.own hi2 (fun j hj e => own_ne hi2 HB2.out (by decide) (e ▸ hj))
      simpa using this
    · have := hset.own HO2.out (fun j hj e => own_ne HO2.out HB2.out (by decide) (e ▸ hj))
      simpa using this
    · intro k hk h
      rcases HF2.out k h with h2 | h2
      · exact HIW.out k hk h2
      · have h3 := HIL.out k hk
        have h4 := HS1.out
        simp at h2
        omega
    · exact own_low (hset.own hq2 (fun j hj e => own_ne hq2 HB2.out (by decide) (e ▸ hj))) hsz5
    · exact (((HK1.out.mono (fun k hk => hk.elim .inl (fun h => .inr (.inl h)))).trans hal (fun i hi => .inl (.inr (.inr hi))))).trans hset (fun i hi => .inl (.inl hi))

/-- A field of the book that reads as a list. -/
def BFCosts (w : World) (gB i : Nat) (rs : List Value) (A : Option Addr) (c : Nat) : Prop := ∃ cs, w.heap[gB]? = some (.cells cs 59 (0, 0)) ∧ cs[i]? = some (.slice A rs.length c) ∧ RdS w A rs
theorem BFCosts.kp {w w1 : World} {gB i : Nat} {rs : List Value} {A : Option Addr} {c : Nat} (h : BFCosts w gB i rs A c) (k : Kp (fun _ => False) w w1) : BFCosts w1 gB i rs A c := by
  obtain ⟨cs, h1, h2, h3⟩ := h
  exact ⟨cs, k.blk h1 (fun h => h), h2, h3.kp k (fun _ _ _ h => h)⟩
theorem BFCosts.cell {w : World} {gB i : Nat} {rs : List Value} {A : Option Addr} {c : Nat} (h : BFCosts w gB i rs A c) : w.cell? ⟨gB, i, none⟩ = some (.slice A rs.length c) := by
  obtain ⟨cs, h1, h2, h3⟩ := h
  exact (blk_cell h1 i).trans h2
theorem BFCosts.rd {w : World} {gB i : Nat} {rs : List Value} {A : Option Addr} {c : Nat} (h : BFCosts w gB i rs A c) : RdS w A rs := by
  obtain ⟨cs, h1, h2, h3⟩ := h
  exact h3
/-- Lists that read alike. -/
def AlikeCosts (w : World) (rs ws : List Value) : Prop := ∀ i, i < rs.length → ∃ (xs : List Value) (A : Option Addr) (c : Nat) (A2 : Option Addr) (c2 : Nat), rs[i]? = some (.slice A xs.length c) ∧ ws[i]? = some (.slice A2 xs.length c2) ∧ RdS w A xs ∧ RdS w A2 xs ∧ xs.length ≤ 1000000 ∧ ∀ x, x ∈ xs → GoodCosts x

set_option maxRecDepth 100000 in
set_option maxHeartbeats 4000000 in
theorem stillCosts_any (gB : Nat) (rs ws : List Value) (AI AW : Option Addr) (cI cW : Nat) (w : World) (h1 : BFCosts w gB 6 rs AI cI) (h2 : BFCosts w gB 7 ws AW cW) (ha : AlikeCosts w rs ws) (hl : rs.length ≤ 100) (hlw : ws.length = rs.length) :
    Calls Try.prog 50 #[.pointer (some ⟨gB, 0, none⟩)] w fun e w' => e = .returned (.bool true) ∧ Dr w w' := by
  have H1 := Lib.hid h1
  have H2 := Lib.hid h2
  have HA := Lib.hid ha
  have HLW := Lib.hid hlw
  clear h1 h2 ha hlw
  go_enter Try.func50, Try.ntmps50
  go_wp2_with fail
  go_loopw [3] (fun i wr => ∃ k : Nat, k ≤ rs.length ∧ i = .int .i64 k ∧ Hid (Dr w wr)) (fun i _ => rs.length - (intOf i).toNat)
  case atStart => exact ⟨0, Nat.zero_le _, rfl, Dr.refl _⟩
  case round =>
    obtain ⟨k, hk, rfl, HDr⟩ := hrel
    have hb1 := (H1.out.kp HDr.out.kp).cell
    have hb2 := (H2.out.kp HDr.out.kp).cell
    by_cases hlt : k < rs.length
    · obtain ⟨xs, A, c, A2, c2, hr, hw, hra, hra2, hxl, hgd⟩ := HA.out k hlt
      obtain ⟨b1, o1, rfl, hc1⟩ := (H1.out.kp HDr.out.kp).rd k _ hr
      obtain ⟨b2, o2, rfl, hc2⟩ := (H2.out.kp HDr.out.kp).rd k _ hw
      have hkw : k < ws.length := by have := HLW.out; omega
      have HS := Lib.hid (sameCosts_refl A A2 c c2 xs)
      have HRA := Lib.hid (hra.kp HDr.out.kp (fun _ _ _ h => h))
      have HRA2 := Lib.hid (hra2.kp HDr.out.kp (fun _ _ _ h => h))
      have HGD := Lib.hid hgd
      have hk0 : (0 : Int) ≤ (k : Int) := by omega
      have hk1 : (k : Int) < (rs.length : Int) := by omega
      have hk2 : (k : Int) < (ws.length : Int) := by omega
      clear hr hw hra hra2 hgd
      go_wp2_with fail
      go_quiet ((go_at_call 84; exact Calls.quiet_of (HS.out _ HRA.out HRA2.out hxl HGD.out)))
      go_wp2_with fail
      refine ⟨⟨k + 1, by omega, by simp, HDr.out.trans ⟨_, rfl⟩⟩, by simp only [intOf]; omega⟩
    · go_wp2_with fail
      go_ret
      exact ⟨rfl, HDr.out⟩

/-- Rows of one's own, each with its cells. -/
def OwnFCosts (w : World) (base : Nat) (vs : List Value) (f : Nat → List Value) : Prop := ∀ i v, vs[i]? = some v → w.ownsRow base 64 1 v (f i).length (f i)
theorem OwnFCosts.blk {w : World} {base : Nat} {vs : List Value} {f : Nat → List Value} (h : OwnFCosts w base vs f) {b : Nat} (hb : InV vs b) : ∃ cur, w.heap[b]? = some (.cells cur 64 (0, 0)) := by
  obtain ⟨i, v, hv, hk⟩ := hb
  exact own_blk (h i v hv) hk
theorem BFCosts.kpS {w w1 : World} {gB i base : Nat} {rs vs : List Value} {f : Nat → List Value} {A : Option Addr} {c : Nat} (h : BFCosts w gB i rs A c) (hA : ∀ b o, A = some ⟨b, o, none⟩ → ∃ cur, w.heap[b]? = some (.cells cur 50 (0, 0))) (ho : OwnFCosts w base vs f) (k : Kp (InV vs) w w1) : BFCosts w1 gB i rs A c := by
  obtain ⟨cs, h1, h2, h3⟩ := h
  refine ⟨cs, k.blk h1 (fun hb => ?_), h2, h3.kp k (fun b o hb hv => ?_)⟩
  · obtain ⟨cur, hh⟩ := ho.blk hb
    exact blk_ne hh h1 (by decide) rfl
  · obtain ⟨cur, hh⟩ := ho.blk hv
    obtain ⟨cur2, hh2⟩ := hA b o hb
    exact blk_ne hh hh2 (by decide) rfl

set_option maxRecDepth 100000 in
set_option maxHeartbeats 4000000 in
theorem putCosts_any (gB base : Nat) (rs : List Value) (f : Nat → List Value) (AI : Option Addr) (cI : Nat) (w : World) (h1 : BFCosts w gB 6 rs AI cI) (hA : ∀ b o, AI = some ⟨b, o, none⟩ → ∃ cur, w.heap[b]? = some (.cells cur 50 (0, 0)))
    (ho : OwnFCosts w base rs f) (hap : ApartV rs) (hl : rs.length ≤ 2) (hf : ∀ i, (f i).length ≤ 800) (hbase : base ≤ w.heap.size) :
    Calls Try.prog 55 #[.pointer (some ⟨gB, 0, none⟩)] w fun e w' => e = .returned (.tuple #[]) ∧ OwnFCosts w' base rs (fun i => marksCosts i 0 (f i).length) ∧ BFCosts w' gB 6 rs AI cI ∧ Kp (InV rs) w w' := by
  have H1 := Lib.hid h1
  have HA := Lib.hid hA
  have HO := Lib.hid ho
  have HAP := Lib.hid hap
  have HF := Lib.hid hf
  clear h1 hA ho hap hf
  go_enter Try.func55, Try.ntmps55
  go_wp2_with fail
  go_loopw [2] (fun i wr => ∃ t : Nat, t ≤ rs.length ∧ i = .int .i64 t ∧ Hid (OwnFCosts wr base rs (fun i => if i < t then marksCosts i 0 (f i).length else f i)) ∧ Hid (Kp (InV rs) w wr)) (fun i _ => rs.length - (intOf i).toNat)
  case atStart => exact ⟨0, Nat.zero_le _, rfl, by refine Lib.hid ?_; simpa using HO.out, Kp.refl _ _⟩
  case round =>
    obtain ⟨t, ht, rfl, HOt, HK⟩ := hrel
    have HBt := Lib.hid (H1.out.kpS HA.out HO.out HK.out)
    have hbc := HBt.out.cell
    by_cases hlt : t < rs.length
    · obtain ⟨v, hv⟩ : ∃ v, rs[t]? = some v := ⟨rs[t], List.getElem?_eq_getElem hlt⟩
      obtain ⟨b1, o1, hAe, hc1⟩ := HBt.out.rd t _ hv
      have hot := HOt.out t v hv
      simp only [Nat.lt_irrefl, if_false] at hot
      obtain ⟨A, c, rfl⟩ := own_slice hot
      subst hAe
      have hfl := HF.out t
      have HV := Lib.hid hv
      have HOT := Lib.hid hot
      clear hv hot
      go_wp2_with fail
      refine (markCosts_any t 0 (f t).length _ (by omega) (by omega)).mono ?_
      rintro e w1 ⟨vm, rfl, hm, hk1⟩
      obtain ⟨Am, cm, rfl⟩ := own_slice hm
      have HM := Lib.hid (RdS.own hm)
      have HMn : Hid (∀ bb o, Am = some ⟨bb, o, none⟩ → ¬ InV rs bb) := by
        refine Lib.hid fun bb o h hb => ?_
        obtain ⟨i, u, hu, hub⟩ := hb
        have h3 := (own_lt hm (k := bb) (by rw [h]; rfl)).1
        have h4 := (own_lt (HOt.out i u hu) hub).2
        omega
      have HOw : Hid (OwnFCosts w1 base rs (fun i => if i < t then marksCosts i 0 (f i).length else f i)) := Lib.hid (fun i u hu => hk1.own (HOt.out i u hu) (fun _ _ h => h))
      have HK1 := Lib.hid (HK.out.trans hk1 (fun _ h => h.elim))
      clear hm hk1
      go_wp2_with fail
      go_loopw [4] (fun i wr => ∃ k : Nat, k ≤ (f t).length ∧ i = .int .i64 k ∧ Hid (OwnFCosts wr base rs (fun i => if i < t then marksCosts i 0 (f i).length else if i = t then marksCosts t 0 k ++ (f t).drop k else f i)) ∧ Hid (Kp (InV rs) w1 wr)) (fun i _ => (f t).length - (intOf i).toNat)
      case atStart =>
        refine ⟨0, Nat.zero_le _, rfl, Lib.hid (fun i u hu => ?_), Kp.refl _ _⟩
        have := HOw.out i u hu
        by_cases h1 : i < t
        · simpa [h1] using this
        · by_cases h2 : i = t
          · subst h2
            simpa [marksCosts] using this
          · simpa [h1, h2] using this
      case round =>
        obtain ⟨k, hk, rfl, HOk, HKk⟩ := hrel
        have HKw := Lib.hid (HK1.out.trans HKk.out (fun _ h => .inl h))
        have HBk := Lib.hid (H1.out.kpS HA.out HO.out HKw.out)
        have hbc2 := HBk.out.cell
        by_cases hkl : k < (f t).length
        · obtain ⟨b2, o2, hAe2, hc2⟩ := HBk.out.rd t _ HV.out
          injection hAe2 with hAe2
          injection hAe2 with hAe2 hAe3
          subst hAe2 hAe3
          obtain ⟨bm, om, rfl, hcm⟩ := HM.out k _ (marksCosts_get t 0 (f t).length k hkl)
          have hcm := HKk.out.cell hcm (HMn.out _ _ rfl)
          rw [Nat.zero_add] at hcm
          have hok := HOk.out t _ HV.out
          simp only [Nat.lt_irrefl, if_false, if_true] at hok
          have hlk : (marksCosts t 0 k ++ (f t).drop k).length = (f t).length := by
            rw [List.length_append, marksCosts_len, List.length_drop]
            omega
          rw [hlk] at hok
          obtain ⟨g, cg, hge, hg1, hg2, hg3, hg4⟩ := own_form hok (by omega)
          injection hge with hge1 hge2 hge3
          subst hge1 hge3
          obtain ⟨z, hz⟩ : ∃ z, (marksCosts t 0 k ++ (f t).drop k)[k]? = some z := ⟨_, List.getElem?_eq_getElem (by omega)⟩
          obtain ⟨hcz, hfz⟩ := own_cellS hok k z hz
          have HOK := Lib.hid hok
          have hk0 : (0 : Int) ≤ (k : Int) := by omega
          have hk1 : (k : Int) < ((f t).length : Int) := by omega
          have hk2 : (0 : Int) ≤ (t : Int) := by omega
          have hk3 : (t : Int) < (rs.length : Int) := by omega
          clear hok hz hlk
          unfold mkCosts at hcm
          go_wp2_with fail
          go_region
          all_goals
            go_wp2_with fail
            refine ⟨⟨k + 1, by omega, by simp, Lib.hid (fun i u hu => ?_), (HKk.out.setCell (p := ⟨g, k, none⟩) (.inl ⟨t, _, HV.out, rfl⟩) _).drew⟩, by simp only [intOf]; omega⟩
            have hset : Kp (fun j => j = g) wr (wr.setCell ⟨g, k, none⟩ (mkCosts t k)) := (Kp.refl (fun j => j = g) wr).setCell (.inl rfl) _
            by_cases h2 : i = t
            · subst h2
              have hu2 := HV.out
              rw [hu] at hu2
              injection hu2 with hu2
              subst hu2
              have h3 := (HOK.out.stored k (mkCosts i k)).1
              have h4 : (marksCosts i 0 k ++ (f i).drop k).set k (mkCosts i k) = marksCosts i 0 (k + 1) ++ (f i).drop (k + 1) := by
                rw [marksCosts_snoc, Nat.zero_add, List.append_assoc, List.drop_eq_getElem_cons hkl, set_at (marksCosts_len i 0 k)]
                rfl
              have h5 : (marksCosts i 0 (k + 1) ++ (f i).drop (k + 1)).length = (f i).length := by
                rw [List.length_append, marksCosts_len, List.length_drop]
                omega
              rw [h4] at h3
              simp only [Nat.lt_irrefl, if_false, if_true]
              rw [h5]
              exact h3
            · have h3 := HOk.out i u hu
              have h4 := hset.own h3 (fun j hj e => HAP.out i t u _ h2 hu HV.out j hj (by subst e; rfl))
              simp only [h2, if_false] at h4 ⊢
              exact h4
        · obtain rfl : k = (f t).length := by omega
          go_wp2_with fail
          refine ⟨⟨t + 1, by omega, by simp, Lib.hid (fun i u hu => ?_), HKw.out⟩, by simp only [intOf]; omega⟩
          have := HOk.out i u hu
          by_cases h1 : i < t
          · simpa [h1, show i < t + 1 by omega] using this
          · by_cases h2 : i = t
            · subst h2
              simpa using this
            · simpa [h1, h2, show ¬ i < t + 1 by omega] using this
    · obtain rfl : t = rs.length := by omega
      go_wp2_with fail
      go_end0
      refine ⟨rfl, fun i u hu => ?_, HBt.out, HK.out⟩
      have := HOt.out i u hu
      have hi : i < rs.length := (List.getElem?_eq_some_iff.1 hu).1
      simpa [hi] using this


/-- What has been grown: the i-th list, and the list that it came of. -/
structure GrownCosts (w0 wr : World) (rs gs : List Value) (N : Nat → Nat) (t : Nat) : Prop where
  len : gs.length = t
  g : ∀ i, i < t → ∃ A c, gs[i]? = some (.slice A (N i + 72) c) ∧ RdS wr A (marksCosts i 0 (N i + 72)) ∧ ∀ b o, A = some ⟨b, o, none⟩ → (∃ cur, wr.heap[b]? = some (.cells cur 64 (0, 0))) ∧ (w0.heap.size ≤ b ∨ ∃ v, rs[i]? = some v ∧ v.ownBlock = some b)
  r : ∀ i A c, i < t → rs[i]? = some (.slice A (N i) c) → RdS wr A (marksCosts i 0 (N i))
  ty : ∀ i v b, i < t → rs[i]? = some v → v.ownBlock = some b → ∃ cur, wr.heap[b]? = some (.cells cur 64 (0, 0))
theorem GrownCosts.kp {w0 wr w2 : World} {rs gs : List Value} {N : Nat → Nat} {t : Nat} {S : Nat → Prop} (h : GrownCosts w0 wr rs gs N t) (k : Kp S wr w2)
    (hS : ∀ b, S b → (∃ cur t2, wr.heap[b]? = some (.cells cur t2 (0, 0)) ∧ t2 ≠ 64) ∨ (b < w0.heap.size ∧ ∀ i v, i < t → rs[i]? = some v → v.ownBlock ≠ some b) ∨ wr.heap.size ≤ b) : GrownCosts w0 w2 rs gs N t := by
  have key : ∀ b, (∃ cur, wr.heap[b]? = some (.cells cur 64 (0, 0))) → (w0.heap.size ≤ b ∨ ∃ i v, i < t ∧ rs[i]? = some v ∧ v.ownBlock = some b) → ¬ S b := by
    rintro b ⟨cur, hh⟩ hb hs
    rcases hS b hs with ⟨cur2, t2, hh2, ht2⟩ | ⟨h1, h2⟩ | h1
    · exact blk_ne hh2 hh ht2 rfl
    · rcases hb with hb | ⟨i, v, hi, hv, hk⟩
      · omega
      · exact h2 i v hi hv hk
    · have := blk_lt hh
      omega
  refine ⟨h.len, fun i hi => ?_, fun i A c hi hv => ?_, fun i v b hi hv hb => ?_⟩
  · obtain ⟨A, c, h1, h2, h3⟩ := h.g i hi
    refine ⟨A, c, h1, h2.kp k (fun b o hA => ?_), fun b o hA => ?_⟩
    · obtain ⟨g1, g2⟩ := h3 b o hA
      exact key b g1 (g2.elim .inl (fun ⟨v, hv, hk⟩ => .inr ⟨i, v, hi, hv, hk⟩))
    · obtain ⟨⟨cur, g1⟩, g2⟩ := h3 b o hA
      exact ⟨⟨cur, k.blk g1 (key b ⟨cur, g1⟩ (g2.elim .inl (fun ⟨v, hv, hk⟩ => .inr ⟨i, v, hi, hv, hk⟩)))⟩, g2⟩
  · refine (h.r i A c hi hv).kp k (fun b o hA => ?_)
    subst hA
    exact key b (h.ty i _ b hi hv rfl) (.inr ⟨i, _, hi, hv, rfl⟩)
  · obtain ⟨cur, hh⟩ := h.ty i v b hi hv hb
    exact ⟨cur, k.blk hh (key b ⟨cur, hh⟩ (.inr ⟨i, v, hi, hv, hb⟩))⟩

/-- One list while it is grown. -/
structure LRowCosts (wr wq : World) (base : Nat) (At Al : Option Addr) (ct cl : Nat) (t n0 n : Nat) : Prop where
  own : wq.ownsRow base 64 1 (.slice Al (n0 + n) cl) (n0 + n) (marksCosts t 0 (n0 + n))
  old : RdS wq At (marksCosts t 0 n0)
  place : Al = At ∨ ∀ k, (Value.slice Al (n0 + n) cl).ownBlock = some k → wr.heap.size ≤ k
  kp : Kp (fun b => (Value.slice At n0 ct).ownBlock = some b) wr wq
  oty : ∀ b, (Value.slice At n0 ct).ownBlock = some b → ∃ cur, wq.heap[b]? = some (.cells cur 64 (0, 0))
theorem LRowCosts.kept {wr wq w2 : World} {base : Nat} {At Al : Option Addr} {ct cl t n0 n : Nat} (h : LRowCosts wr wq base At Al ct cl t n0 n) (k : Kp (fun _ => False) wq w2) : LRowCosts wr w2 base At Al ct cl t n0 n :=
  ⟨k.own h.own (fun _ _ h => h), h.old.kp k (fun _ _ _ h => h), h.place, h.kp.trans k (fun _ h => h.elim), fun b hb => (h.oty b hb).imp fun cur hh => k.blk hh (fun h => h)⟩
/-- More marks behind it. -/
theorem LRowCosts.more {wr wq w1 : World} {base : Nat} {At Al : Option Addr} {ct cl t n0 n m : Nat} {v1 : Value} (h : LRowCosts wr wq base At Al ct cl t n0 n) (hAt : ∀ b o, At = some ⟨b, o, none⟩ → b < wr.heap.size) (hAt2 : ∀ b, (Value.slice At n0 ct).ownBlock = some b → b < wr.heap.size)
    (hown : w1.ownsRow base 64 1 v1 (n0 + n + m) (marksCosts t 0 (n0 + n) ++ marksCosts t (n0 + n) m)) (hg : wq.grownBy w1 (Value.slice Al (n0 + n) cl).ownBlock)
    (hp : (v1.ownBlock = (Value.slice Al (n0 + n) cl).ownBlock ∧ ∃ c2, v1 = .slice Al (n0 + n + m) c2) ∨ ∀ k, v1.ownBlock = some k → wq.heap.size ≤ k) (hr : RdS w1 Al (marksCosts t 0 (n0 + n))) (hty : ∀ b, (Value.slice Al (n0 + n) cl).ownBlock = some b → ∃ cur, w1.heap[b]? = some (.cells cur 64 (0, 0))) :
    ∃ A2 c2, v1 = .slice A2 (n0 + (n + m)) c2 ∧ LRowCosts wr w1 base At A2 ct c2 t n0 (n + m) := by
  rw [← marksCosts_add, Nat.add_assoc] at hown
  obtain ⟨A2, c2, rfl⟩ := own_slice hown
  refine ⟨A2, c2, rfl, hown, ?_, ?_, ?_, ?_⟩
  · rcases h.place with he | hf
    · subst he
      rw [marksCosts_add] at hr
      exact hr.pre
    · have hk : Kp (fun b => (Value.slice Al (n0 + n) cl).ownBlock = some b) wq w1 := (Kp.refl _ wq).grown hg (fun k hk => .inl hk)
      refine h.old.kp hk (fun b o hA hb => ?_)
      have h1 := hf b hb
      have h2 := hAt b o hA
      omega
  · rcases hp with ⟨hp1, c3, hp2⟩ | hp
    · injection hp2 with hp2 hp3 hp4
      subst hp2
      rcases h.place with he | hf
      · exact .inl he
      · refine .inr fun k hk => hf k ?_
        rw [← hp1]
        exact hk
    · exact .inr fun k hk => Nat.le_trans h.kp.size (hp k hk)
  · refine h.kp.grown hg (fun k hk => ?_)
    rcases h.place with he | hf
    · subst he
      left
      rw [← own_same Al (n0 + n) cl]
      exact hk
    · exact .inr (hf k hk)
  · intro b hb
    rcases h.place with he | hf
    · subst he
      exact hty b (by rw [← own_same Al n0 ct]; exact hb)
    · obtain ⟨cur, hh⟩ := h.oty b hb
      refine ⟨cur, (hg.block b (blk_lt hh) (fun h2 => ?_)).trans hh⟩
      have h3 := hf b h2.symm
      cases At with
      | none => simp [Value.ownBlock] at hb
      | some ad =>
        obtain ⟨xb, xo, xs⟩ := ad
        have h5 : xb = b := by simpa [Value.ownBlock] using hb
        subst h5
        have := hAt2 xb (by rfl)
        omega

set_option maxRecDepth 100000 in
set_option maxHeartbeats 8000000 in
theorem growCosts_any (gB base : Nat) (rs : List Value) (N : Nat → Nat) (AI : Option Addr) (cI : Nat) (w : World) (h1 : BFCosts w gB 6 rs AI cI) (hA : ∀ b o, AI = some ⟨b, o, none⟩ → ∃ cur, w.heap[b]? = some (.cells cur 50 (0, 0)))
    (ho : OwnFCosts w base rs (fun i => marksCosts i 0 (N i))) (hap : ApartV rs) (hl : rs.length ≤ 2) (hN : ∀ i, N i ≤ 800) (hbase : base ≤ w.heap.size) :
    Calls Try.prog 60 #[.pointer (some ⟨gB, 0, none⟩)] w fun e w' => ∃ A c gs, e = .returned (.slice A gs.length c) ∧ w'.ownsRow w.heap.size 50 1 (.slice A gs.length c) gs.length gs ∧ GrownCosts w w' rs gs N rs.length ∧ BFCosts w' gB 6 rs AI cI ∧ Kp (InV rs) w w' := by
  have H1 := Lib.hid h1
  have HA := Lib.hid hA
  have HO : Hid (OwnFCosts w base rs (fun i => marksCosts i 0 (N i))) := Lib.hid ho
  have HAP := Lib.hid hap
  have HN := Lib.hid hN
  clear h1 hA ho hap hN
  go_enter Try.func60, Try.ntmps60
  go_wp2_with fail
  go_loopw [3, 4] (fun v i wr => ∃ t : Nat, t ≤ rs.length ∧ i = .int .i64 t ∧ ∃ v2 gs, v2 = v ∧ Hid (wr.ownsRow w.heap.size 50 1 v2 t gs) ∧ Hid (GrownCosts w wr rs gs N t) ∧ Hid (∀ i v, t ≤ i → rs[i]? = some v → wr.ownsRow base 64 1 v (N i) (marksCosts i 0 (N i))) ∧ Hid (Kp (InV rs) w wr)) (fun _ i _ => rs.length - (intOf i).toNat)
  case atStart => exact ⟨0, Nat.zero_le _, rfl, _, [], rfl, World.ownsRow_nil _ _ _ _, ⟨rfl, fun i h => by omega, fun i A c h => by omega, fun i v b h => by omega⟩, fun i v _ hv => by have := HO.out i v hv; simpa [marksCosts_len] using this, Kp.refl _ _⟩
  case round =>
    obtain ⟨t, ht, rfl, v2, gs, rfl, HG, HGr, HOt, HK⟩ := hrel
    obtain ⟨Ag, cg, rfl⟩ := own_slice HG.out
    have HBt := Lib.hid (H1.out.kpS HA.out HO.out HK.out)
    have hbc := HBt.out.cell
    by_cases hlt : t < rs.length
    · obtain ⟨v, hv⟩ : ∃ v, rs[t]? = some v := ⟨rs[t], List.getElem?_eq_getElem hlt⟩
      obtain ⟨b1, o1, hAe, hc1⟩ := HBt.out.rd t _ hv
      have hot := HOt.out t v (Nat.le_refl _) hv
      obtain ⟨At, ct, rfl⟩ := own_slice hot
      subst hAe
      have hNt := HN.out t
      have HV := Lib.hid hv
      have HAB : Hid (∀ b o, At = some ⟨b, o, none⟩ → b < wr.heap.size) := Lib.hid (fun b o h => (own_lt hot (k := b) (by rw [h]; rfl)).2)
      have HL0 : Hid (LRowCosts wr wr base At At ct ct t (N t) 0) := ⟨hot, RdS.ownS hot, .inl rfl, Kp.refl _ _, fun b hb => own_blk hot hb⟩
      have HAB2 : Hid (∀ b, (Value.slice At (N t) ct).ownBlock = some b → b < wr.heap.size) := Lib.hid (fun b hb => (own_lt hot hb).2)
      have HOT := Lib.hid hot
      clear hv hot
      have hk2 : (0 : Int) ≤ (t : Int) := by omega
      have hk3 : (t : Int) < (rs.length : Int) := by omega
      have hbw : base ≤ wr.heap.size := Nat.le_trans hbase HK.out.size
      go_upto_block 2 with fail
      go_cut [5] (fun v wx => ∃ Al cl, v = .slice Al (N t + 12) cl ∧ Hid (LRowCosts wr wx base At Al ct cl t (N t) 12))
      case first =>
        go_wp2_with fail
        go_loopw [5, 6] (fun v i wq => ∃ n : Nat, n ≤ 12 ∧ i = .int .i64 n ∧ ∃ Al cl, v = .slice Al (N t + n) cl ∧ Hid (LRowCosts _ wq base At Al ct cl t (N t) n)) (fun _ i _ => 12 - (intOf i).toNat)
        case atStart => exact ⟨0, by omega, rfl, At, ct, rfl, HL0⟩
        case round =>
          obtain ⟨n, hn, rfl, Al, cl, rfl, HL⟩ := hrel
          by_cases hn12 : n < 12
          · have hmk := markCosts_any t (N t + n) 1 wr (by omega) (by omega)
            rw [show ((N t + n : Nat) : Int) = (N t : Int) + n by omega] at hmk
            have HMK := Lib.hid hmk
            clear hmk
            go_wp2_with fail
            refine HMK.out.mono ?_
            rintro e w1 ⟨vm, rfl, hm, hk1⟩
            obtain ⟨Am, cm, rfl⟩ := own_slice hm
            have HM := Lib.hid hm
            have HL1 := Lib.hid (HL.out.kept hk1)
            have hsz := HL1.out.kp.size
            clear hm hk1 HMK
            go_wp2_with (at_builtin; refine appKeep base rfl _ _ 50 64 (.complex .f64 0 0) 16 rfl Try.underlying50 infoCosts rfl (by decide) Al cl (N t + n) (marksCosts t 0 (N t + n)) Am 1 cm (marksCosts t (N t + n) 1) rfl rfl (own_nil HM.out) (RdS.ownS HM.out) (by rw [marksCosts_len]) (fun u hu => (marksCosts_good t (N t + n) 1 (by omega) (by omega) u hu).one) (by omega) HL1.out.own (by omega) (by omega) ?_; intro v3 w3 hown hgrow hpl hold hty; obtain ⟨A3, c3, rfl, hlr⟩ := HL1.out.more HAB.out HAB2.out hown hgrow hpl hold hty; have HL3 := Lib.hid hlr; clear hown hgrow hpl hold hty hlr)
            refine ⟨⟨n + 1, by omega, by simp, A3, c3, rfl, HL3⟩, by simp only [intOf]; omega⟩
          · obtain rfl : n = 12 := by omega
            go_wp2_with fail
            go_meet
            exact ⟨Al, cl, rfl, HL⟩
      case rest =>
        obtain ⟨Al, cl, rfl, HL⟩ := hcut
        have hmk := markCosts_any t (N t + 12) 60 wc (by omega) (by omega)
        rw [show ((N t + 12 : Nat) : Int) = (N t : Int) + 12 by omega] at hmk
        have HMK := Lib.hid hmk
        clear hmk
        go_wp2_with fail
        refine HMK.out.mono ?_
        rintro e w1 ⟨vm, rfl, hm, hk1⟩
        obtain ⟨Am, cm, rfl⟩ := own_slice hm
        have HM := Lib.hid hm
        have HL1 := Lib.hid (HL.out.kept hk1)
        have hsz := HL1.out.kp.size
        clear hm hk1 HMK
        go_wp2_with (first
          | (at_builtin; refine appKeep base rfl _ _ 50 64 (.complex .f64 0 0) 16 rfl Try.underlying50 infoCosts rfl (by decide) Al cl (N t + 12) (marksCosts t 0 (N t + 12)) Am 60 cm (marksCosts t (N t + 12) 60) rfl rfl (own_nil HM.out) (RdS.ownS HM.out) (by rw [marksCosts_len]) (fun u hu => (marksCosts_good t (N t + 12) 60 (by omega) (by omega) u hu).one) (by omega) HL1.out.own (by omega) (by omega) ?_; intro v3 w3 hown hgrow hpl hold hty; obtain ⟨A3, c3, rfl, hlr⟩ := HL1.out.more HAB.out HAB2.out hown hgrow hpl hold hty; have HL3 := Lib.hid hlr; have hog : w3.ownsRow w.heap.size 50 1 (.slice Ag t cg) t gs := (hlr.kp.own HG.out (fun j hj h => (by obtain ⟨cur, hh⟩ := own_blk HG.out hj; obtain ⟨cur2, hh2⟩ := own_blk HOT.out h; exact blk_ne hh hh2 (by decide) rfl))); have HOG := Lib.hid hog; have hsz3 := hlr.kp.size; clear hown hgrow hpl hold hty hlr hog)
          | (at_builtin; refine app1 w.heap.size rfl _ _ 56 50 (.slice none 0 0) 24 rfl Try.underlying56 infoSCosts rfl (by decide) (.slice Ag t cg) t gs (.slice A3 (N t + (12 + 60)) c3) rfl rfl rfl HOG.out (by have := HK.out.size; omega) (by omega) ?_; intro v4 w4 hown hgrow hfresh; have HO4 := Lib.hid hown; have HG4 := Lib.hid hgrow; clear hown hgrow hfresh))
        have hv := HV.out
        have hlt0 : ∀ b, (Value.slice At (N t) ct).ownBlock = some b → b < w.heap.size := fun b hb => (own_lt (HO.out t _ hv) hb).2
        have hk3' := HL3.out.kp
        have k34 : Kp (fun b => (Value.slice Ag t cg).ownBlock = some b) w3 w4 := (Kp.refl _ w3).grown HG4.out (fun k hk => .inl hk)
        have hty34 : ∀ b, (Value.slice Ag t cg).ownBlock = some b → ∃ cur, w3.heap[b]? = some (.cells cur 50 (0, 0)) := fun b hb => own_blk HOG.out hb
        have hnt : ∀ b cur, w3.heap[b]? = some (.cells cur 64 (0, 0)) → ¬ (Value.slice Ag t cg).ownBlock = some b := by
          intro b cur hh hb
          obtain ⟨cur2, hh2⟩ := hty34 b hb
          exact blk_ne hh2 hh (by decide) rfl
        have hgr3 : GrownCosts w w3 rs gs N t := HGr.out.kp hk3' (fun b hb => .inr (.inl ⟨hlt0 b hb, fun i v hi hvi hvb => HAP.out i t v _ (by omega) hvi hv b hvb hb⟩))
        have hgr4 : GrownCosts w w4 rs gs N t := hgr3.kp k34 (fun b hb => .inl (by obtain ⟨cur, hh⟩ := hty34 b hb; exact ⟨cur, 50, hh, by decide⟩))
        have hown4 : w4.ownsRow base 64 1 (.slice A3 (N t + (12 + 60)) c3) (N t + (12 + 60)) (marksCosts t 0 (N t + (12 + 60))) := k34.own HL3.out.own (fun b hb => by obtain ⟨cur, hh⟩ := own_blk HL3.out.own hb; exact hnt b cur hh)
        refine ⟨⟨t + 1, by omega, by simp, v4, gs ++ [.slice A3 (N t + (12 + 60)) c3], rfl, HO4, ⟨by simp [hgr4.len], fun i hi => ?_, fun i A c hi hvi => ?_, fun i v b hi hvi hb => ?_⟩, fun i v hi hvi => ?_, ?_⟩, by simp only [intOf]; omega⟩
        · rcases Nat.lt_or_ge i t with h | h
          · obtain ⟨A, c, e1, e2⟩ := hgr4.g i h
            exact ⟨A, c, by rw [List.getElem?_append_left (by rw [hgr4.len]; exact h)]; exact e1, e2⟩
          · obtain rfl : i = t := by omega
            refine ⟨A3, c3, by rw [List.getElem?_append_right (by rw [hgr4.len]; exact Nat.le_refl _), hgr4.len]; simp, RdS.ownS hown4, fun b o hA => ?_⟩
            have hb3 : (Value.slice A3 (N i + (12 + 60)) c3).ownBlock = some b := by rw [hA]; rfl
            refine ⟨own_blk hown4 hb3, ?_⟩
            rcases HL3.out.place with he | hf
            · exact .inr ⟨_, hv, by rw [← he, hA]; rfl⟩
            · exact .inl (Nat.le_trans HK.out.size (hf b hb3))
        · rcases Nat.lt_or_ge i t with h | h
          · exact hgr4.r i A c h hvi
          · obtain rfl : i = t := by omega
            rw [hv] at hvi
            injection hvi with hvi
            injection hvi with hvi1 hvi2 hvi3
            subst hvi1
            refine HL3.out.old.kp k34 (fun b o hA => ?_)
            obtain ⟨cur, hh⟩ := HL3.out.oty b (by rw [hA]; rfl)
            exact hnt b cur hh
        · rcases Nat.lt_or_ge i t with h | h
          · exact hgr4.ty i v b h hvi hb
          · obtain rfl : i = t := by omega
            rw [hv] at hvi
            injection hvi with hvi
            subst hvi
            obtain ⟨cur, hh⟩ := HL3.out.oty b hb
            exact ⟨cur, k34.blk hh (hnt b cur hh)⟩
        · have h3 := hk3'.own (HOt.out i v (by omega) hvi) (fun b hb => HAP.out i t v _ (by omega) hvi hv b hb)
          exact k34.own h3 (fun b hb => by obtain ⟨cur, hh⟩ := own_blk h3 hb; exact hnt b cur hh)
        · exact (HK.out.trans hk3' (fun b hb => .inl ⟨t, _, hv, hb⟩)).trans k34 (fun b hb => .inr (own_lt HOG.out hb).1)
    · obtain rfl : t = rs.length := by omega
      go_wp2_with fail
      go_ret
      have hl2 := HGr.out.len
      refine ⟨Ag, cg, gs, by rw [hl2]; rfl, by rw [hl2]; exact HG.out, HGr.out, HBt.out, HK.out⟩

set_option maxRecDepth 100000 in
set_option maxHeartbeats 4000000 in
theorem markedCosts_any (AI : Option Addr) (cI : Nat) (rs : List Value) (M : Nat → Nat) (w : World) (hr : RdS w AI rs) (hl : rs.length ≤ 2) (hM : ∀ i, M i ≤ 900)
    (hx : ∀ i, i < rs.length → ∃ A c, rs[i]? = some (.slice A (M i) c) ∧ RdS w A (marksCosts i 0 (M i))) :
    Calls Try.prog 65 #[.slice AI rs.length cI] w fun e w' => e = .returned (.bool true) ∧ Kp (fun _ => False) w w' := by
  have HR := Lib.hid hr
  have HM := Lib.hid hM
  have HX := Lib.hid hx
  clear hr hM hx
  go_enter Try.func65, Try.ntmps65
  go_wp2_with fail
  go_loopw [3] (fun i wr => ∃ k : Nat, k ≤ rs.length ∧ i = .int .i64 k ∧ Hid (Kp (fun _ => False) w wr)) (fun i _ => rs.length - (intOf i).toNat)
  case atStart => exact ⟨0, Nat.zero_le _, rfl, Kp.refl _ _⟩
  case round =>
    obtain ⟨k, hk, rfl, HK⟩ := hrel
    by_cases hlt : k < rs.length
    · obtain ⟨A, c, hv, hra⟩ := HX.out k hlt
      obtain ⟨b1, o1, rfl, hc1⟩ := HR.out k _ hv
      have hc1 := HK.out.cell hc1 (fun h => h)
      have HRA := Lib.hid (hra.kp HK.out (fun _ _ _ h => h))
      have hMk := HM.out k
      have hlen := marksCosts_len k 0 (M k)
      have HLEN := Lib.hid hlen
      have HGD := Lib.hid (marksCosts_good k 0 (M k) (by omega) (by omega))
      have hk0 : (0 : Int) ≤ (k : Int) := by omega
      have hk1 : (k : Int) < (rs.length : Int) := by omega
      clear hv hra hlen
      go_wp2_with fail
      go_region_held3 (fun w' => w'.cell? ⟨b1, o1 + k, none⟩ = some (.slice A (M k) c))
        (first
          | (go_keep; done)
          | (exact hk7.cell hc1 (fun h => h)))
        (first
          | (go_at_call 89; refine (markCosts_any k 0 (M k) _ (by omega) (by omega)).mono ?_; rintro e w7 ⟨vm, rfl, hm, hk7⟩; obtain ⟨Am, cm, rfl⟩ := own_slice hm; have HMo := Lib.hid hm; have HRA7 : Hid (RdS w7 A (marksCosts k 0 (M k))) := Lib.hid ((show RdS wr.drew A _ from HRA.out).kp hk7 (fun _ _ _ h => h)))
          | (go_at_call 84; have hs := sameCosts_refl A Am c cm (marksCosts k 0 (M k)) _ HRA7.out (RdS.own HMo.out) (by rw [HLEN.out]; omega) HGD.out; rw [HLEN.out] at hs; refine hs.mono ?_; clear hs; rintro e w8 ⟨rfl, m8, rfl⟩))
      all_goals
        go_wp2_with fail
        exact ⟨⟨k + 1, by omega, by simp, Lib.hid ((HK.out.drew.trans hk7 (fun _ h => .inl h)).drewN _)⟩, by simp only [intOf]; omega⟩
    · go_wp2_with fail
      go_ret
      exact ⟨rfl, HK.out⟩

end Go.Proofs.Ytbhjckhhmcfpfaa

/- The book's functions on Ints: same, mark, copy, keep, still, put, grow, marked. -/
import Derived.Test.YtbhjckhhmcfpfaaRBest
namespace Go.Proofs.Ytbhjckhhmcfpfaa
open Go.RowKit
set_option linter.unusedVariables false
set_option linter.unusedSimpArgs false

/-- What may stand in such a list. -/
def GoodInts (x : Value) : Prop := ∃ n, x = .int .i64 n
theorem GoodInts.one {x : Value} (h : GoodInts x) : x.oneCell' = true := by obtain ⟨n, rfl⟩ := h; rfl
/-- The k-th mark of the i-th list. -/
def mkInts (i k : Nat) : Value := .int .i64 (-1000000 * (i : Int) - (k : Int) - 7)
theorem mkInts_good (i k : Nat) (hi : i < 2) (hk : k < 900) : GoodInts (mkInts i k) := ⟨_, rfl⟩
/-- Marks. -/
def marksInts (i from_ n : Nat) : List Value := (List.range n).map fun j => mkInts i (from_ + j)
theorem marksInts_len (i from_ n : Nat) : (marksInts i from_ n).length = n := by simp [marksInts]
theorem marksInts_snoc (i from_ n : Nat) : marksInts i from_ (n + 1) = marksInts i from_ n ++ [mkInts i (from_ + n)] := by simp [marksInts, List.range_succ]
theorem marksInts_add (i n m : Nat) : marksInts i 0 (n + m) = marksInts i 0 n ++ marksInts i n m := by
  induction m with
  | zero => simp [marksInts]
  | succ m ih =>
    rw [← Nat.add_assoc, marksInts_snoc, ih, marksInts_snoc, List.append_assoc, Nat.zero_add]
theorem marksInts_get (i from_ n j : Nat) (h : j < n) : (marksInts i from_ n)[j]? = some (mkInts i (from_ + j)) := by simp [marksInts, h]
theorem marksInts_good (i from_ n : Nat) (hi : i < 2) (hn : from_ + n ≤ 900) : ∀ x, x ∈ marksInts i from_ n → GoodInts x := by
  intro x hx
  obtain ⟨j, hj, rfl⟩ := List.mem_map.1 hx
  have := List.mem_range.1 hj
  exact mkInts_good i _ hi (by omega)

set_option maxRecDepth 100000 in
set_option maxHeartbeats 1000000 in
theorem sameInts_refl (A1 A2 : Option Addr) (cap1 cap2 : Nat) (xs : List Value) (w : World) (hr1 : RdS w A1 xs) (hr2 : RdS w A2 xs) (hl : xs.length ≤ 1000000) (hg : ∀ x, x ∈ xs → GoodInts x) :
    Calls Try.prog 28 #[.slice A1 xs.length cap1, .slice A2 xs.length cap2] w fun e w' => e = .returned (.bool true) ∧ Dr w w' := by
  have HR1 := Lib.hid hr1
  have HR2 := Lib.hid hr2
  have HG := Lib.hid hg
  clear hr1 hr2 hg
  go_enter Try.func28, Try.ntmps28
  go_wp2_with fail
  go_loopw [5] (fun i wr => ∃ k : Nat, k ≤ xs.length ∧ i = .int .i64 k ∧ Dr w wr) (fun i _ => xs.length - (intOf i).toNat)
  case atStart => exact ⟨0, Nat.zero_le _, rfl, Dr.refl _⟩
  case round =>
    obtain ⟨k, hk, rfl, m, rfl⟩ := hrel
    by_cases hlt : k < xs.length
    · obtain ⟨x, hx⟩ : ∃ x, xs[k]? = some x := ⟨xs[k], List.getElem?_eq_getElem hlt⟩
      obtain ⟨b1, o1, rfl, hc1⟩ := HR1.out k x hx
      obtain ⟨b2, o2, rfl, hc2⟩ := HR2.out k x hx
      have hgx := HG.out x (List.mem_of_getElem? hx)
      clear hx
      obtain ⟨n, rfl⟩ := hgx
      go_wp2_with fail
      go_quiet (fail)
      go_wp2_with fail
      refine ⟨⟨k + 1, by omega, by simp, ⟨_, rfl⟩⟩, by simp only [intOf]; omega⟩
    · go_wp2_with fail
      go_ret
      exact ⟨rfl, ⟨_, rfl⟩⟩

theorem infoInts : (Try.prog.info? 3).map (fun i => (i.zero, i.size, i.bytes)) = some (some (.int .i64 0), 1, 8) := by kernel_rfl
theorem infoSInts : (Try.prog.info? 30).map (fun i => (i.zero, i.size, i.bytes)) = some (some (.slice none 0 0), 1, 24) := by kernel_rfl

set_option maxRecDepth 100000 in
set_option maxHeartbeats 1000000 in
theorem markInts_any (i from_ n : Nat) (w : World) (hi : i < 2) (hn : from_ + n ≤ 900) :
    Calls Try.prog 86 #[.int .i64 i, .int .i64 from_, .int .i64 n] w fun e w' => ∃ v, e = .returned v ∧ w'.ownsRow w.heap.size 3 1 v n (marksInts i from_ n) ∧ Kp (fun _ => False) w w' := by
  go_enter Try.func86, Try.ntmps86
  go_wp2_with fail
  go_loopw [7, 8] (fun v k wr => ∃ j : Nat, j ≤ n ∧ k = .int .i64 ((from_ : Int) + j) ∧ ∃ v2, v2 = v ∧ Hid (wr.ownsRow w.heap.size 3 1 v2 j (marksInts i from_ j)) ∧ Hid (Kp (fun _ => False) w wr)) (fun _ k _ => (from_ + n : Int).toNat - (intOf k).toNat)
  case atStart => exact ⟨0, Nat.zero_le _, by simp, _, rfl, World.ownsRow_nil _ _ _ _, Kp.refl _ _⟩
  case round =>
    obtain ⟨j, hj, rfl, v2, rfl, HO, HK⟩ := hrel
    obtain ⟨A1, cap1, rfl⟩ := own_slice HO.out
    by_cases hlt : j < n
    · have hi2 : -1000000 ≤ -1000000 * (i : Int) := by omega
      go_wp2_with (at_builtin; refine app1 w.heap.size rfl _ _ 30 3 (.int .i64 0) 8 rfl Try.underlying30 infoInts rfl (by decide) (.slice A1 j cap1) _ _ (mkInts i (from_ + j)) rfl rfl rfl HO.out HK.out.size (by omega) ?_; intro v3 w3 hown hgrow hfresh; have HG := Lib.hid hgrow; have HO3 := Lib.hid hown; clear hgrow hown hfresh)
      refine ⟨⟨j + 1, by omega, by simp [Int.add_assoc], _, rfl, ?_, HK.out.grown HG.out (fun i hi => .inr (own_lt HO.out hi).1)⟩, by simp only [intOf]; omega⟩
      rw [marksInts_snoc]
      exact HO3
    · go_wp2_with fail
      go_ret
      obtain rfl : j = n := by omega
      exact ⟨_, rfl, HO.out, HK.out⟩

set_option maxRecDepth 100000 in
set_option maxHeartbeats 1000000 in
theorem copyInts_any (A : Option Addr) (cap0 : Nat) (xs : List Value) (w : World) (hr : RdS w A xs) (hA : A = none → xs.length = 0 ∧ cap0 = 0) (hl : xs.length ≤ 1000000) (hg : ∀ x, x ∈ xs → GoodInts x) :
    Calls Try.prog 43 #[.slice A xs.length cap0] w fun e w' => ∃ v, e = .returned v ∧ w'.ownsRow w.heap.size 3 1 v xs.length xs ∧ Kp (fun _ => False) w w' := by
  have HR := Lib.hid hr
  have HA := Lib.hid hA
  have HG := Lib.hid (fun x hx => (hg x hx).one)
  clear hr hA hg
  go_enter Try.func43, Try.ntmps43
  go_wp2_with (at_builtin; refine appN w.heap.size rfl _ _ 30 3 (.int .i64 0) 1 8 rfl Try.underlying30 infoInts rfl (by decide) (by decide) (.slice none 0 0) 0 [] A xs.length cap0 xs rfl rfl HA.out HR.out (by rw [Nat.mul_one]) HG.out (World.ownsRow_nil _ _ _ _) (Nat.le_refl _) (by omega) ?_; intro v3 w3 hown hgrow hfresh; have HG3 := Lib.hid hgrow; have HO3 := Lib.hid hown; clear hgrow hown hfresh)
  go_ret
  have := HO3.out
  rw [Nat.zero_add, List.nil_append] at this
  exact ⟨v3, rfl, this, (Kp.refl _ w).grown HG3.out (fun k hk => by simp [Value.ownBlock] at hk)⟩

/-- The book's two outer lists of this kind. -/
structure BkInts (w : World) (base gB : Nat) (cs : Array Value) (I W : Value) (rs ws : List Value) : Prop where
  book : w.heap[gB]? = some (.cells cs 59 (0, 0))
  hI : cs[0]? = some I
  hW : cs[1]? = some W
  rI : w.ownsRow base 30 1 I rs.length rs
  rW : w.ownsRow base 30 1 W ws.length ws
  apart : ∀ k, I.ownBlock = some k → W.ownBlock ≠ some k

set_option maxRecDepth 100000 in
set_option maxHeartbeats 4000000 in
theorem bookInts_any (base gB : Nat) (cs : Array Value) (I W : Value) (rs ws : List Value) (A : Option Addr) (cap0 : Nat) (xs : List Value) (b0 : Nat) (w : World) (hB : BkInts w base gB cs I W rs ws) (hbase : base ≤ gB) (ho : w.ownsRow b0 3 1 (.slice A xs.length cap0) xs.length xs) (hl : xs.length ≤ 1000000) (hg : ∀ x, x ∈ xs → GoodInts x) (hrs : rs.length ≤ 100) (hws : ws.length ≤ 100) :
    Calls Try.prog 24 #[.pointer (some ⟨gB, 0, none⟩), .slice A xs.length cap0] w fun e w' => ∃ I' W' q, e = .returned (.tuple #[]) ∧
      BkInts w' base gB ((cs.setIfInBounds 0 I').setIfInBounds 1 W') I' W' (rs ++ [.slice A xs.length cap0]) (ws ++ [q]) ∧ w'.ownsRow w.heap.size 3 1 q xs.length xs ∧ Kp (fun i => i = gB ∨ I.ownBlock = some i ∨ W.ownBlock = some i) w w' := by
  have HB := Lib.hid hB
  have HO := Lib.hid ho
  have HG := Lib.hid hg
  obtain ⟨AI, capI, rfl⟩ := own_slice hB.rI
  obtain ⟨AW, capW, rfl⟩ := own_slice hB.rW
  have hc0 : w.cell? ⟨gB, 0, none⟩ = some (.slice AI rs.length capI) := (blk_cell hB.book 0).trans hB.hI
  have hf0 : w.frozen? ⟨gB, 0, none⟩ = false := blk_free hB.book 0
  have hlt : gB < w.heap.size := blk_lt hB.book
  have hne0 := own_ne hB.rI hB.book (by decide)
  have HNE0 := Lib.hid hne0
  have HN1 := Lib.hid (own_ne hB.rW hB.book (by decide))
  clear hB ho hg hne0
  go_enter Try.func24, Try.ntmps24
  go_wp2_with (at_builtin; refine app1 base rfl _ _ 53 30 (.slice none 0 0) 24 rfl Try.underlying53 infoSInts rfl (by decide) (.slice AI rs.length capI) rs.length rs (.slice A xs.length cap0) rfl rfl rfl HB.out.rI (by omega) (by omega) ?_; intro v3 w3 hown hgrow hfresh; obtain ⟨A3, cap3, rfl⟩ := own_slice hown; have hb3 : w3.heap[gB]? = _ := (hgrow.block gB hlt (fun h => HNE0.out h.symm)).trans HB.out.book; have hc3 : w3.cell? ⟨gB, 0, none⟩ = some (.slice AI rs.length capI) := (blk_cell hb3 0).trans HB.out.hI; have hf3 : w3.frozen? ⟨gB, 0, none⟩ = false := blk_free hb3 0; have HB3 := Lib.hid hb3; have HO3 := Lib.hid hown; have HG3 := Lib.hid hgrow; have HF3 := Lib.hid hfresh; clear hb3 hown hgrow hfresh)
  obtain ⟨W5, hW5⟩ : ∃ W5, W5 = w3.setCell ⟨gB, 0, none⟩ (.slice A3 (rs.length + 1) cap3) := ⟨_, rfl⟩
  have hk5 : Kp (fun i => i = gB ∨ (Value.slice AI rs.length capI).ownBlock = some i) w W5 := by
    rw [hW5]
    exact ((Kp.refl (fun i => i = gB ∨ (Value.slice AI rs.length capI).ownBlock = some i) w).grown HG3.out (fun k hk => .inl (.inr hk))).setCell (.inl (.inl rfl)) _
  have hb5 : W5.heap[gB]? = some (.cells (cs.setIfInBounds 0 (.slice A3 (rs.length + 1) cap3)) 59 (0, 0)) := by rw [hW5]; exact blk_set HB3.out 0 _
  have hI5 : W5.ownsRow base 30 1 (.slice A3 (rs.length + 1) cap3) (rs.length + 1) (rs ++ [.slice A xs.length cap0]) := by
    rw [hW5]
    have hset : Kp (fun i => i = gB) w3 (w3.setCell ⟨gB, 0, none⟩ (.slice A3 (rs.length + 1) cap3)) := (Kp.refl (fun i => i = gB) w3).setCell (.inl rfl) _
    exact hset.own HO3.out (fun j hj e => own_ne HO3.out HB3.out (by decide) (e ▸ hj))
  have hW5' : W5.ownsRow base 30 1 (.slice AW ws.length capW) ws.length ws := hk5.own HB.out.rW (fun k hk h => h.elim (fun h => HN1.out (h ▸ hk)) (fun h => HB.out.apart k h hk))
  have ho5 : W5.ownsRow b0 3 1 (.slice A xs.length cap0) xs.length xs := hk5.own HO.out (fun k hk h => by
    obtain ⟨cur, hh⟩ := own_blk HO.out hk
    rcases h with rfl | h
    · exact blk_ne hh HB.out.book (by decide) rfl
    · obtain ⟨cur2, hh2⟩ := own_blk HB.out.rI h
      exact blk_ne hh hh2 (by decide) rfl)
  have hcW : cs[1]? = some (.slice AW ws.length capW) := HB.out.hW
  have hc5 : W5.cell? ⟨gB, 1, none⟩ = some (.slice AW ws.length capW) := by
    rw [blk_cell hb5 1]
    simpa using hcW
  have HI5 := Lib.hid hI5
  have HW5 := Lib.hid hW5'
  have HO5 := Lib.hid ho5
  have HK5 := Lib.hid hk5
  have HB5 := Lib.hid hb5
  have hsz5 := hk5.size
  have HIW : Hid (∀ k, (Value.slice A3 (rs.length + 1) cap3).ownBlock = some k → (Value.slice AW ws.length capW).ownBlock ≠ some k) := by
    refine Lib.hid fun k hk h => ?_
    rcases HF3.out k hk with h2 | h2
    · exact HB.out.apart k h2 h
    · have := (own_lt HB.out.rW h).2
      omega
  have HIL : Hid (∀ k, (Value.slice A3 (rs.length + 1) cap3).ownBlock = some k → k < W5.heap.size) := Lib.hid (fun k hk => (own_lt HI5.out hk).2)
  rw [← hW5]
  clear hW5 hk5 hb5 hI5 hW5' ho5 hcW hc3 hf3
  go_region_law (first
    | (refine step_call (by rfl) 43 _ Try.func43 (by kernel_rfl) (by kernel_rfl) _ _ (by rfl) [.slice A xs.length cap0] (by rfl) ?_; refine (copyInts_any A cap0 xs _ (RdS.ownS (HO5.out.drew)) (own_nil HO5.out) hl HG.out).mono ?_; rintro e w1 ⟨q, rfl, hq, hk1⟩; obtain ⟨Aq, capq, rfl⟩ := own_slice hq; refine ⟨_, rfl, ?_⟩; have hb1 : w1.heap[gB]? = _ := hk1.blk HB5.out (fun h => h); have hc1 : w1.cell? ⟨gB, 1, none⟩ = some (.slice AW ws.length capW) := (hk1.cell (w := W5.drew) hc5 (fun h => h)); have hc1a : ∀ x, (w1.alloc x).cell? ⟨gB, 1, none⟩ = some (.slice AW ws.length capW) := (fun x => (World.cell?_of_block (Below.heap_alloc w1 x gB (blk_lt hb1))).trans hc1); have HQ := Lib.hid hq; have HK1 : Hid (Kp (fun i => i = gB ∨ (Value.slice AI rs.length capI).ownBlock = some i) w w1) := HK5.out.drew.trans hk1 (fun _ h => h.elim); have HO1 : Hid (w1.ownsRow base 30 1 (.slice AW ws.length capW) ws.length ws) := hk1.own HW5.out (fun _ _ h => h); have HI1 : Hid (w1.ownsRow base 30 1 (.slice A3 (rs.length + 1) cap3) (rs.length + 1) (rs ++ [.slice A xs.length cap0])) := hk1.own HI5.out (fun _ _ h => h); have HB1 := Lib.hid hb1; have HS1 : Hid (W5.heap.size ≤ w1.heap.size) := hk1.size; clear hk1 hb1 hq)
    | (refine sapp1 base (by rfl) _ _ 53 30 (.slice none 0 0) 24 (by rfl) Try.underlying53 infoSInts rfl (by decide) (.slice AW ws.length capW) ws.length _ _ (by rfl) _ (by rfl) rfl ((HO1.out.alloc _).drew) (blk_new_drew w1 _) (by simp; have := HK1.out.size; omega) (by omega) ?_; intro v2 w2 hown hgrow hfresh; obtain ⟨A2, c2, rfl⟩ := own_slice hown; have hb2 : w2.heap[gB]? = _ := (hgrow.block gB (Nat.lt_of_lt_of_le (blk_lt HB1.out) (le_alloc_drew _ _)) (fun h => own_ne HO1.out HB1.out (by decide) h.symm)).trans (blk_old HB1.out _); have hc2 : w2.cell? ⟨gB, 1, none⟩ = some (.slice AW ws.length capW) := (World.cell?_of_block (hgrow.block gB (Nat.lt_of_lt_of_le (blk_lt HB1.out) (le_alloc_drew _ _)) (fun h => own_ne HO1.out HB1.out (by decide) h.symm))).trans (hc1a _); have hf2 : w2.frozen? ⟨gB, 1, none⟩ = false := blk_free hb2 1; have HB2 := Lib.hid hb2; have HO2 := Lib.hid hown; have HG2 := Lib.hid hgrow; have HF2 := Lib.hid hfresh; clear hb2 hown hgrow hfresh))
  all_goals
    go_wp2_with fail
    go_end0
    have hset : Kp (fun i => i = gB) w2 (w2.setCell ⟨gB, 1, none⟩ (.slice A2 (ws.length + 1) c2)) := (Kp.refl (fun i => i = gB) w2).setCell (.inl rfl) _
    have hal : Kp (fun i => (Value.slice AW ws.length capW).ownBlock = some i) w1 w2 := ((Kp.refl (fun i => (Value.slice AW ws.length capW).ownBlock = some i) w1).alloc _).grown HG2.out (fun k hk => .inl hk)
    have hi2 := hal.own HI1.out (fun k hk h => HIW.out k hk h)
    have hq2 := hal.own HQ.out (fun k hk h => by
      obtain ⟨cur, hh⟩ := own_blk HQ.out hk
      obtain ⟨cur2, hh2⟩ := own_blk HO1.out h
      exact blk_ne hh hh2 (by decide) rfl)
    have hs1 : 0 < cs.size := (Array.getElem?_eq_some_iff.1 HB.out.hI).1
    have hs2 : 1 < cs.size := (Array.getElem?_eq_some_iff.1 HB.out.hW).1
    refine ⟨.slice A3 (rs.length + 1) cap3, .slice A2 (ws.length + 1) c2, .slice Aq xs.length capq, rfl, ⟨blk_set HB2.out 1 _, by simp [hs1], by simp [hs2], ?_, ?_, ?_⟩, ?_, ?_⟩
    · have := hset.own hi2 (fun j hj e => own_ne hi2 HB2.out (by decide) (e ▸ hj))
      simpa using this
    · have := hset.own HO2.out (fun j hj e => own_ne HO2.out HB2.out (by decide) (e ▸ hj))
      simpa using this
    · intro k hk h
      rcases HF2.out k h with h2 | h2
      · exact HIW.out k hk h2
      · have h3 := HIL.out k hk
        have h4 := HS1.out
        simp at h2
        omega
    · exact own_low (hset.own hq2 (fun j hj e => own_ne hq2 HB2.out (by decide) (e ▸ hj))) hsz5
    · exact (((HK1.out.mono (fun k hk => hk.elim .inl (fun h => .inr (.inl h)))).trans hal (fun i hi => .inl (.inr (.inr hi))))).trans hset (fun i hi => .inl (.inl hi))

theorem Dr.kp {w w' : World} (h : Dr w w') : Kp (fun _ => False) w w' := by
  obtain ⟨n, rfl⟩ := h
  exact (Kp.refl _ w).drewN n
theorem Dr.trans {a b c : World} (h : Dr a b) (k : Dr b c) : Dr a c := by
  obtain ⟨n, rfl⟩ := h
  obtain ⟨m, rfl⟩ := k
  exact ⟨_, World.drewN_drewN _ _ _⟩
/-- A field of the book that reads as a list. -/
def BFInts (w : World) (gB i : Nat) (rs : List Value) (A : Option Addr) (c : Nat) : Prop := ∃ cs, w.heap[gB]? = some (.cells cs 59 (0, 0)) ∧ cs[i]? = some (.slice A rs.length c) ∧ RdS w A rs
theorem BFInts.kp {w w1 : World} {gB i : Nat} {rs : List Value} {A : Option Addr} {c : Nat} (h : BFInts w gB i rs A c) (k : Kp (fun _ => False) w w1) : BFInts w1 gB i rs A c := by
  obtain ⟨cs, h1, h2, h3⟩ := h
  exact ⟨cs, k.blk h1 (fun h => h), h2, h3.kp k (fun _ _ _ h => h)⟩
theorem BFInts.cell {w : World} {gB i : Nat} {rs : List Value} {A : Option Addr} {c : Nat} (h : BFInts w gB i rs A c) : w.cell? ⟨gB, i, none⟩ = some (.slice A rs.length c) := by
  obtain ⟨cs, h1, h2, h3⟩ := h
  exact (blk_cell h1 i).trans h2
theorem BFInts.rd {w : World} {gB i : Nat} {rs : List Value} {A : Option Addr} {c : Nat} (h : BFInts w gB i rs A c) : RdS w A rs := by
  obtain ⟨cs, h1, h2, h3⟩ := h
  exact h3
/-- Lists that read alike. -/
def AlikeInts (w : World) (rs ws : List Value) : Prop := ∀ i, i < rs.length → ∃ (xs : List Value) (A : Option Addr) (c : Nat) (A2 : Option Addr) (c2 : Nat), rs[i]? = some (.slice A xs.length c) ∧ ws[i]? = some (.slice A2 xs.length c2) ∧ RdS w A xs ∧ RdS w A2 xs ∧ xs.length ≤ 1000000 ∧ ∀ x, x ∈ xs → GoodInts x

set_option maxRecDepth 100000 in
set_option maxHeartbeats 4000000 in
theorem stillInts_any (gB : Nat) (rs ws : List Value) (AI AW : Option Addr) (cI cW : Nat) (w : World) (h1 : BFInts w gB 0 rs AI cI) (h2 : BFInts w gB 1 ws AW cW) (ha : AlikeInts w rs ws) (hl : rs.length ≤ 100) (hlw : ws.length = rs.length) :
    Calls Try.prog 47 #[.pointer (some ⟨gB, 0, none⟩)] w fun e w' => e = .returned (.bool true) ∧ Dr w w' := by
  have H1 := Lib.hid h1
  have H2 := Lib.hid h2
  have HA := Lib.hid ha
  have HLW := Lib.hid hlw
  clear h1 h2 ha hlw
  go_enter Try.func47, Try.ntmps47
  go_wp2_with fail
  go_loopw [3] (fun i wr => ∃ k : Nat, k ≤ rs.length ∧ i = .int .i64 k ∧ Hid (Dr w wr)) (fun i _ => rs.length - (intOf i).toNat)
  case atStart => exact ⟨0, Nat.zero_le _, rfl, Dr.refl _⟩
  case round =>
    obtain ⟨k, hk, rfl, HDr⟩ := hrel
    have hb1 := (H1.out.kp HDr.out.kp).cell
    have hb2 := (H2.out.kp HDr.out.kp).cell
    by_cases hlt : k < rs.length
    · obtain ⟨xs, A, c, A2, c2, hr, hw, hra, hra2, hxl, hgd⟩ := HA.out k hlt
      obtain ⟨b1, o1, rfl, hc1⟩ := (H1.out.kp HDr.out.kp).rd k _ hr
      obtain ⟨b2, o2, rfl, hc2⟩ := (H2.out.kp HDr.out.kp).rd k _ hw
      have hkw : k < ws.length := by have := HLW.out; omega
      have HS := Lib.hid (sameInts_refl A A2 c c2 xs)
      have HRA := Lib.hid (hra.kp HDr.out.kp (fun _ _ _ h => h))
      have HRA2 := Lib.hid (hra2.kp HDr.out.kp (fun _ _ _ h => h))
      have HGD := Lib.hid hgd
      have hk0 : (0 : Int) ≤ (k : Int) := by omega
      have hk1 : (k : Int) < (rs.length : Int) := by omega
      have hk2 : (k : Int) < (ws.length : Int) := by omega
      clear hr hw hra hra2 hgd
      go_wp2_with fail
      go_quiet ((go_at_call 28; exact Calls.quiet_of (HS.out _ HRA.out HRA2.out hxl HGD.out)))
      go_wp2_with fail
      refine ⟨⟨k + 1, by omega, by simp, HDr.out.trans ⟨_, rfl⟩⟩, by simp only [intOf]; omega⟩
    · go_wp2_with fail
      go_ret
      exact ⟨rfl, HDr.out⟩

theorem set_at {α : Type} {l r : List α} {y x : α} {k : Nat} (h : l.length = k) : (l ++ y :: r).set k x = l ++ x :: r := by
  subst h
  induction l with
  | nil => rfl
  | cons a l ih => simp [ih]
/-- Rows of one's own, each with its cells. -/
def OwnFInts (w : World) (base : Nat) (vs : List Value) (f : Nat → List Value) : Prop := ∀ i v, vs[i]? = some v → w.ownsRow base 3 1 v (f i).length (f i)
def ApartV (vs : List Value) : Prop := ∀ (i j : Nat) (v u : Value), i ≠ j → vs[i]? = some v → vs[j]? = some u → ∀ k, v.ownBlock = some k → u.ownBlock ≠ some k
def InV (vs : List Value) (b : Nat) : Prop := ∃ (i : Nat) (v : Value), vs[i]? = some v ∧ v.ownBlock = some b
theorem OwnFInts.blk {w : World} {base : Nat} {vs : List Value} {f : Nat → List Value} (h : OwnFInts w base vs f) {b : Nat} (hb : InV vs b) : ∃ cur, w.heap[b]? = some (.cells cur 3 (0, 0)) := by
  obtain ⟨i, v, hv, hk⟩ := hb
  exact own_blk (h i v hv) hk
theorem BFInts.kpS {w w1 : World} {gB i base : Nat} {rs vs : List Value} {f : Nat → List Value} {A : Option Addr} {c : Nat} (h : BFInts w gB i rs A c) (hA : ∀ b o, A = some ⟨b, o, none⟩ → ∃ cur, w.heap[b]? = some (.cells cur 30 (0, 0))) (ho : OwnFInts w base vs f) (k : Kp (InV vs) w w1) : BFInts w1 gB i rs A c := by
  obtain ⟨cs, h1, h2, h3⟩ := h
  refine ⟨cs, k.blk h1 (fun hb => ?_), h2, h3.kp k (fun b o hb hv => ?_)⟩
  · obtain ⟨cur, hh⟩ := ho.blk hb
    exact blk_ne hh h1 (by decide) rfl
  · obtain ⟨cur, hh⟩ := ho.blk hv
    obtain ⟨cur2, hh2⟩ := hA b o hb
    exact blk_ne hh hh2 (by decide) rfl

set_option maxRecDepth 100000 in
set_option maxHeartbeats 4000000 in
theorem putInts_any (gB base : Nat) (rs : List Value) (f : Nat → List Value) (AI : Option Addr) (cI : Nat) (w : World) (h1 : BFInts w gB 0 rs AI cI) (hA : ∀ b o, AI = some ⟨b, o, none⟩ → ∃ cur, w.heap[b]? = some (.cells cur 30 (0, 0)))
    (ho : OwnFInts w base rs f) (hap : ApartV rs) (hl : rs.length ≤ 2) (hf : ∀ i, (f i).length ≤ 800) (hbase : base ≤ w.heap.size) :
    Calls Try.prog 52 #[.pointer (some ⟨gB, 0, none⟩)] w fun e w' => e = .returned (.tuple #[]) ∧ OwnFInts w' base rs (fun i => marksInts i 0 (f i).length) ∧ BFInts w' gB 0 rs AI cI ∧ Kp (InV rs) w w' := by
  have H1 := Lib.hid h1
  have HA := Lib.hid hA
  have HO := Lib.hid ho
  have HAP := Lib.hid hap
  have HF := Lib.hid hf
  clear h1 hA ho hap hf
  go_enter Try.func52, Try.ntmps52
  go_wp2_with fail
  go_loopw [2] (fun i wr => ∃ t : Nat, t ≤ rs.length ∧ i = .int .i64 t ∧ Hid (OwnFInts wr base rs (fun i => if i < t then marksInts i 0 (f i).length else f i)) ∧ Hid (Kp (InV rs) w wr)) (fun i _ => rs.length - (intOf i).toNat)
  case atStart => exact ⟨0, Nat.zero_le _, rfl, by refine Lib.hid ?_; simpa using HO.out, Kp.refl _ _⟩
  case round =>
    obtain ⟨t, ht, rfl, HOt, HK⟩ := hrel
    have HBt := Lib.hid (H1.out.kpS HA.out HO.out HK.out)
    have hbc := HBt.out.cell
    by_cases hlt : t < rs.length
    · obtain ⟨v, hv⟩ : ∃ v, rs[t]? = some v := ⟨rs[t], List.getElem?_eq_getElem hlt⟩
      obtain ⟨b1, o1, hAe, hc1⟩ := HBt.out.rd t _ hv
      have hot := HOt.out t v hv
      simp only [Nat.lt_irrefl, if_false] at hot
      obtain ⟨A, c, rfl⟩ := own_slice hot
      subst hAe
      have hfl := HF.out t
      have HV := Lib.hid hv
      have HOT := Lib.hid hot
      clear hv hot
      go_wp2_with fail
      refine (markInts_any t 0 (f t).length _ (by omega) (by omega)).mono ?_
      rintro e w1 ⟨vm, rfl, hm, hk1⟩
      obtain ⟨Am, cm, rfl⟩ := own_slice hm
      have HM := Lib.hid (RdS.own hm)
      have HMn : Hid (∀ bb o, Am = some ⟨bb, o, none⟩ → ¬ InV rs bb) := by
        refine Lib.hid fun bb o h hb => ?_
        obtain ⟨i, u, hu, hub⟩ := hb
        have h3 := (own_lt hm (k := bb) (by rw [h]; rfl)).1
        have h4 := (own_lt (HOt.out i u hu) hub).2
        omega
      have HOw : Hid (OwnFInts w1 base rs (fun i => if i < t then marksInts i 0 (f i).length else f i)) := Lib.hid (fun i u hu => hk1.own (HOt.out i u hu) (fun _ _ h => h))
      have HK1 := Lib.hid (HK.out.trans hk1 (fun _ h => h.elim))
      clear hm hk1
      go_wp2_with fail
      go_loopw [4] (fun i wr => ∃ k : Nat, k ≤ (f t).length ∧ i = .int .i64 k ∧ Hid (OwnFInts wr base rs (fun i => if i < t then marksInts i 0 (f i).length else if i = t then marksInts t 0 k ++ (f t).drop k else f i)) ∧ Hid (Kp (InV rs) w1 wr)) (fun i _ => (f t).length - (intOf i).toNat)
      case atStart =>
        refine ⟨0, Nat.zero_le _, rfl, Lib.hid (fun i u hu => ?_), Kp.refl _ _⟩
        have := HOw.out i u hu
        by_cases h1 : i < t
        · simpa [h1] using this
        · by_cases h2 : i = t
          · subst h2
            simpa [marksInts] using this
          · simpa [h1, h2] using this
      case round =>
        obtain ⟨k, hk, rfl, HOk, HKk⟩ := hrel
        have HKw := Lib.hid (HK1.out.trans HKk.out (fun _ h => .inl h))
        have HBk := Lib.hid (H1.out.kpS HA.out HO.out HKw.out)
        have hbc2 := HBk.out.cell
        by_cases hkl : k < (f t).length
        · obtain ⟨b2, o2, hAe2, hc2⟩ := HBk.out.rd t _ HV.out
          injection hAe2 with hAe2
          injection hAe2 with hAe2 hAe3
          subst hAe2 hAe3
          obtain ⟨bm, om, rfl, hcm⟩ := HM.out k _ (marksInts_get t 0 (f t).length k hkl)
          have hcm := HKk.out.cell hcm (HMn.out _ _ rfl)
          rw [Nat.zero_add] at hcm
          have hok := HOk.out t _ HV.out
          simp only [Nat.lt_irrefl, if_false, if_true] at hok
          have hlk : (marksInts t 0 k ++ (f t).drop k).length = (f t).length := by
            rw [List.length_append, marksInts_len, List.length_drop]
            omega
          rw [hlk] at hok
          obtain ⟨g, cg, hge, hg1, hg2, hg3, hg4⟩ := own_form hok (by omega)
          injection hge with hge1 hge2 hge3
          subst hge1 hge3
          obtain ⟨z, hz⟩ : ∃ z, (marksInts t 0 k ++ (f t).drop k)[k]? = some z := ⟨_, List.getElem?_eq_getElem (by omega)⟩
          obtain ⟨hcz, hfz⟩ := own_cellS hok k z hz
          have HOK := Lib.hid hok
          have hk0 : (0 : Int) ≤ (k : Int) := by omega
          have hk1 : (k : Int) < ((f t).length : Int) := by omega
          have hk2 : (0 : Int) ≤ (t : Int) := by omega
          have hk3 : (t : Int) < (rs.length : Int) := by omega
          clear hok hz hlk
          unfold mkInts at hcm
          go_wp2_with fail
          go_region
          all_goals
            go_wp2_with fail
            refine ⟨⟨k + 1, by omega, by simp, Lib.hid (fun i u hu => ?_), (HKk.out.setCell (p := ⟨g, k, none⟩) (.inl ⟨t, _, HV.out, rfl⟩) _).drew⟩, by simp only [intOf]; omega⟩
            have hset : Kp (fun j => j = g) wr (wr.setCell ⟨g, k, none⟩ (mkInts t k)) := (Kp.refl (fun j => j = g) wr).setCell (.inl rfl) _
            by_cases h2 : i = t
            · subst h2
              have hu2 := HV.out
              rw [hu] at hu2
              injection hu2 with hu2
              subst hu2
              have h3 := (HOK.out.stored k (mkInts i k)).1
              have h4 : (marksInts i 0 k ++ (f i).drop k).set k (mkInts i k) = marksInts i 0 (k + 1) ++ (f i).drop (k + 1) := by
                rw [marksInts_snoc, Nat.zero_add, List.append_assoc, List.drop_eq_getElem_cons hkl, set_at (marksInts_len i 0 k)]
                rfl
              have h5 : (marksInts i 0 (k + 1) ++ (f i).drop (k + 1)).length = (f i).length := by
                rw [List.length_append, marksInts_len, List.length_drop]
                omega
              rw [h4] at h3
              simp only [Nat.lt_irrefl, if_false, if_true]
              rw [h5]
              exact h3
            · have h3 := HOk.out i u hu
              have h4 := hset.own h3 (fun j hj e => HAP.out i t u _ h2 hu HV.out j hj (by subst e; rfl))
              simp only [h2, if_false] at h4 ⊢
              exact h4
        · obtain rfl : k = (f t).length := by omega
          go_wp2_with fail
          refine ⟨⟨t + 1, by omega, by simp, Lib.hid (fun i u hu => ?_), HKw.out⟩, by simp only [intOf]; omega⟩
          have := HOk.out i u hu
          by_cases h1 : i < t
          · simpa [h1, show i < t + 1 by omega] using this
          · by_cases h2 : i = t
            · subst h2
              simpa using this
            · simpa [h1, h2, show ¬ i < t + 1 by omega] using this
    · obtain rfl : t = rs.length := by omega
      go_wp2_with fail
      go_end0
      refine ⟨rfl, fun i u hu => ?_, HBt.out, HK.out⟩
      have := HOt.out i u hu
      have hi : i < rs.length := (List.getElem?_eq_some_iff.1 hu).1
      simpa [hi] using this

theorem RdS.pre {w : World} {A : Option Addr} {xs ys : List Value} (h : RdS w A (xs ++ ys)) : RdS w A xs := fun j x hj => h j x (by rw [List.getElem?_append_left (List.getElem?_eq_some_iff.1 hj).1]; exact hj)
section
variable {P : Program} {ops : Array Oper} {rest : List Oper} {o : Oper} {a : Act} {Q : Exit → Act → World → Prop}
/-- append(v, xs...), v owned: what v reads stays. -/
theorem appKeep {W : World} (base : Nat) (hgd : o.guard = none) (s x : Operand) (t e : TypeId) (z : Value) (bytes : Nat)
    (ho : o.op = .call { callee := .builtin .append, args := #[s, x], argTypes := #[t, t] })
    (ht : P.underlying t = some (.slice e)) (hinfo : (P.info? e).map (fun i => (i.zero, i.size, i.bytes)) = some (some z, 1, bytes)) (hz : z.cells.size = 1) (hb0 : 0 < bytes)
    (A1 : Option Addr) (cap1 : Nat) (n : Nat) (xs : List Value) (A : Option Addr) (m c : Nat) (news : List Value) (hs : a.eval s = .slice A1 n cap1) (hx : a.eval x = .slice A m c) (hnone : A = none → m = 0 ∧ c = 0)
    (HR : RdS W A news) (hl : news.length = m * 1) (h1 : ∀ u ∈ news, u.oneCell' = true) (hm0 : 0 < m)
    (HO : W.ownsRow base e 1 (.slice A1 n cap1) n xs) (hbase : base ≤ W.heap.size) (hbytes : (n + m) * bytes ≤ 140737488355328)
    (h : ∀ v1 w1, w1.ownsRow base e 1 v1 (n + m) (xs ++ news) → W.grownBy w1 (Value.slice A1 n cap1).ownBlock → ((v1.ownBlock = (Value.slice A1 n cap1).ownBlock ∧ ∃ c2, v1 = .slice A1 (n + m) c2) ∨ (∀ k, v1.ownBlock = some k → W.heap.size ≤ k)) → RdS w1 A1 xs → (∀ b, (Value.slice A1 n cap1).ownBlock = some b → ∃ cur, w1.heap[b]? = some (.cells cur e (0, 0))) → wpList P ops Q rest (a.put o.dst v1) w1) :
    wpList P ops Q (o :: rest) a W := by
  obtain ⟨i0, hi, hzz⟩ := Option.map_eq_some_iff.1 hinfo
  simp only [Prod.mk.injEq] at hzz
  obtain ⟨hz0, hz1, hz2⟩ := hzz
  have hlen : n + m ≤ 140737488355328 := Nat.le_trans (Nat.le_mul_of_pos_right _ hb0) hbytes
  have hRx := RdS.ownS HO
  cases A with
  | none =>
    obtain ⟨h2, _⟩ := hnone rfl
    omega
  | some ad =>
  have hc : ∀ j u, news[j]? = some u → W.cell? (ad.add j) = some u := by
    intro j u hj
    obtain ⟨b, o2, hA, hcc⟩ := HR j u hj
    injection hA with hA
    subst hA
    rw [Addr.add_lit]
    exact hcc
  rcases HO.2 with ⟨he, hn0⟩ | ⟨g, cap, cur, he, hg, hh, hnc, hcm, hcs, htk⟩
  · injection he with he1 he2 he3
    subst he1 he3
    have hxs : xs = [] := by
      have := HO.1
      rw [hn0] at this
      exact List.eq_nil_of_length_eq_zero (by simpa using this)
    subst hxs
    refine wpList_append_own_at W hgd s x t ho base e i0 z 1 bytes ht hi hz0 hz1 hz2 hz (by omega) _ n [] hs HO ad m c news hx (by omega) hc h1 (by simp only [maxLen]; omega) hbytes hbase ?_
    intro v1 w1 hown hgr hnil hat
    refine h v1 w1 hown hgr (.inr fun k hk => ?_) (RdS.nil _ _) (fun b hb => by simp [Value.ownBlock] at hb)
    rcases hat with hat | hat
    · rw [hat] at hk
      simp [Value.ownBlock] at hk
    · rw [hat] at hk
      simp at hk
      omega
  · injection he with he1 he2 he3
    subst he1 he3
    by_cases hfit : n + m ≤ cap1
    · refine wpList_append_fits W hgd s x t ho base e i0 1 ht hi hz1 g n cap1 xs hs HO ad m c news hx (by omega) hc h1 hfit ?_
      intro w1 hown hgr
      exact h _ w1 hown hgr (.inl ⟨rfl, cap1, rfl⟩) (RdS.pre (RdS.ownS hown)) (fun b hb => own_blk hown hb)
    · refine wpList_append_grows W hgd s x t ho e i0 z 1 bytes ht hi hz0 hz1 hz2 hz (by omega) (some ⟨g, 0, none⟩) n cap1 xs hs (fun h => by cases h) (by have := HO.1; omega) (fun b hb j u hj => ?_) ad m c news hx (by omega) hc h1 (by omega) (by simp only [maxLen]; omega) hbytes ?_
      · injection hb with hb
        subst hb
        obtain ⟨b2, o2, hA, hcc⟩ := hRx j u hj
        injection hA with hA
        injection hA with hA hA2
        subst hA hA2
        rw [Addr.add_lit]
        exact hcc
      · intro v1 w1 hown hgr
        refine h v1 w1 (own_low hown hbase) ⟨hgr.os, hgr.tape, hgr.output, hgr.size, fun k hk hn => hgr.block k hk (by simp)⟩ (.inr fun k hk => (own_lt hown hk).1) ?_ (fun b hb => ⟨cur, by
          have hbg : g = b := by simpa [Value.ownBlock] using hb
          subst hbg
          exact (hgr.block g (blk_lt hh) (by simp)).trans hh⟩)
        have hk : Kp (fun _ => False) W w1 := (Kp.refl _ W).grown hgr (fun k hk => by cases hk)
        exact hRx.kp hk (fun _ _ _ h => h)
end

/-- What has been grown: the i-th list, and the list that it came of. -/
structure GrownInts (w0 wr : World) (rs gs : List Value) (N : Nat → Nat) (t : Nat) : Prop where
  len : gs.length = t
  g : ∀ i, i < t → ∃ A c, gs[i]? = some (.slice A (N i + 72) c) ∧ RdS wr A (marksInts i 0 (N i + 72)) ∧ ∀ b o, A = some ⟨b, o, none⟩ → (∃ cur, wr.heap[b]? = some (.cells cur 3 (0, 0))) ∧ (w0.heap.size ≤ b ∨ ∃ v, rs[i]? = some v ∧ v.ownBlock = some b)
  r : ∀ i A c, i < t → rs[i]? = some (.slice A (N i) c) → RdS wr A (marksInts i 0 (N i))
  ty : ∀ i v b, i < t → rs[i]? = some v → v.ownBlock = some b → ∃ cur, wr.heap[b]? = some (.cells cur 3 (0, 0))
theorem GrownInts.kp {w0 wr w2 : World} {rs gs : List Value} {N : Nat → Nat} {t : Nat} {S : Nat → Prop} (h : GrownInts w0 wr rs gs N t) (k : Kp S wr w2)
    (hS : ∀ b, S b → (∃ cur t2, wr.heap[b]? = some (.cells cur t2 (0, 0)) ∧ t2 ≠ 3) ∨ (b < w0.heap.size ∧ ∀ i v, i < t → rs[i]? = some v → v.ownBlock ≠ some b) ∨ wr.heap.size ≤ b) : GrownInts w0 w2 rs gs N t := by
  have key : ∀ b, (∃ cur, wr.heap[b]? = some (.cells cur 3 (0, 0))) → (w0.heap.size ≤ b ∨ ∃ i v, i < t ∧ rs[i]? = some v ∧ v.ownBlock = some b) → ¬ S b := by
    rintro b ⟨cur, hh⟩ hb hs
    rcases hS b hs with ⟨cur2, t2, hh2, ht2⟩ | ⟨h1, h2⟩ | h1
    · exact blk_ne hh2 hh ht2 rfl
    · rcases hb with hb | ⟨i, v, hi, hv, hk⟩
      · omega
      · exact h2 i v hi hv hk
    · have := blk_lt hh
      omega
  refine ⟨h.len, fun i hi => ?_, fun i A c hi hv => ?_, fun i v b hi hv hb => ?_⟩
  · obtain ⟨A, c, h1, h2, h3⟩ := h.g i hi
    refine ⟨A, c, h1, h2.kp k (fun b o hA => ?_), fun b o hA => ?_⟩
    · obtain ⟨g1, g2⟩ := h3 b o hA
      exact key b g1 (g2.elim .inl (fun ⟨v, hv, hk⟩ => .inr ⟨i, v, hi, hv, hk⟩))
    · obtain ⟨⟨cur, g1⟩, g2⟩ := h3 b o hA
      exact ⟨⟨cur, k.blk g1 (key b ⟨cur, g1⟩ (g2.elim .inl (fun ⟨v, hv, hk⟩ => .inr ⟨i, v, hi, hv, hk⟩)))⟩, g2⟩
  · refine (h.r i A c hi hv).kp k (fun b o hA => ?_)
    subst hA
    exact key b (h.ty i _ b hi hv rfl) (.inr ⟨i, _, hi, hv, rfl⟩)
  · obtain ⟨cur, hh⟩ := h.ty i v b hi hv hb
    exact ⟨cur, k.blk hh (key b ⟨cur, hh⟩ (.inr ⟨i, v, hi, hv, hb⟩))⟩

theorem own_same (A : Option Addr) (n c n2 c2 : Nat) : (Value.slice A n c).ownBlock = (Value.slice A n2 c2).ownBlock := by cases A <;> rfl
/-- One list while it is grown. -/
structure LRowInts (wr wq : World) (base : Nat) (At Al : Option Addr) (ct cl : Nat) (t n0 n : Nat) : Prop where
  own : wq.ownsRow base 3 1 (.slice Al (n0 + n) cl) (n0 + n) (marksInts t 0 (n0 + n))
  old : RdS wq At (marksInts t 0 n0)
  place : Al = At ∨ ∀ k, (Value.slice Al (n0 + n) cl).ownBlock = some k → wr.heap.size ≤ k
  kp : Kp (fun b => (Value.slice At n0 ct).ownBlock = some b) wr wq
  oty : ∀ b, (Value.slice At n0 ct).ownBlock = some b → ∃ cur, wq.heap[b]? = some (.cells cur 3 (0, 0))
theorem LRowInts.kept {wr wq w2 : World} {base : Nat} {At Al : Option Addr} {ct cl t n0 n : Nat} (h : LRowInts wr wq base At Al ct cl t n0 n) (k : Kp (fun _ => False) wq w2) : LRowInts wr w2 base At Al ct cl t n0 n :=
  ⟨k.own h.own (fun _ _ h => h), h.old.kp k (fun _ _ _ h => h), h.place, h.kp.trans k (fun _ h => h.elim), fun b hb => (h.oty b hb).imp fun cur hh => k.blk hh (fun h => h)⟩
/-- More marks behind it. -/
theorem LRowInts.more {wr wq w1 : World} {base : Nat} {At Al : Option Addr} {ct cl t n0 n m : Nat} {v1 : Value} (h : LRowInts wr wq base At Al ct cl t n0 n) (hAt : ∀ b o, At = some ⟨b, o, none⟩ → b < wr.heap.size) (hAt2 : ∀ b, (Value.slice At n0 ct).ownBlock = some b → b < wr.heap.size)
    (hown : w1.ownsRow base 3 1 v1 (n0 + n + m) (marksInts t 0 (n0 + n) ++ marksInts t (n0 + n) m)) (hg : wq.grownBy w1 (Value.slice Al (n0 + n) cl).ownBlock)
    (hp : (v1.ownBlock = (Value.slice Al (n0 + n) cl).ownBlock ∧ ∃ c2, v1 = .slice Al (n0 + n + m) c2) ∨ ∀ k, v1.ownBlock = some k → wq.heap.size ≤ k) (hr : RdS w1 Al (marksInts t 0 (n0 + n))) (hty : ∀ b, (Value.slice Al (n0 + n) cl).ownBlock = some b → ∃ cur, w1.heap[b]? = some (.cells cur 3 (0, 0))) :
    ∃ A2 c2, v1 = .slice A2 (n0 + (n + m)) c2 ∧ LRowInts wr w1 base At A2 ct c2 t n0 (n + m) := by
  rw [← marksInts_add, Nat.add_assoc] at hown
  obtain ⟨A2, c2, rfl⟩ := own_slice hown
  refine ⟨A2, c2, rfl, hown, ?_, ?_, ?_, ?_⟩
  · rcases h.place with he | hf
    · subst he
      rw [marksInts_add] at hr
      exact hr.pre
    · have hk : Kp (fun b => (Value.slice Al (n0 + n) cl).ownBlock = some b) wq w1 := (Kp.refl _ wq).grown hg (fun k hk => .inl hk)
      refine h.old.kp hk (fun b o hA hb => ?_)
      have h1 := hf b hb
      have h2 := hAt b o hA
      omega
  · rcases hp with ⟨hp1, c3, hp2⟩ | hp
    · injection hp2 with hp2 hp3 hp4
      subst hp2
      rcases h.place with he | hf
      · exact .inl he
      · refine .inr fun k hk => hf k ?_
        rw [← hp1]
        exact hk
    · exact .inr fun k hk => Nat.le_trans h.kp.size (hp k hk)
  · refine h.kp.grown hg (fun k hk => ?_)
    rcases h.place with he | hf
    · subst he
      left
      rw [← own_same Al (n0 + n) cl]
      exact hk
    · exact .inr (hf k hk)
  · intro b hb
    rcases h.place with he | hf
    · subst he
      exact hty b (by rw [← own_same Al n0 ct]; exact hb)
    · obtain ⟨cur, hh⟩ := h.oty b hb
      refine ⟨cur, (hg.block b (blk_lt hh) (fun h2 => ?_)).trans hh⟩
      have h3 := hf b h2.symm
      cases At with
      | none => simp [Value.ownBlock] at hb
      | some ad =>
        obtain ⟨xb, xo, xs⟩ := ad
        have h5 : xb = b := by simpa [Value.ownBlock] using hb
        subst h5
        have := hAt2 xb (by rfl)
        omega

set_option maxRecDepth 100000 in
set_option maxHeartbeats 8000000 in
theorem growInts_any (gB base : Nat) (rs : List Value) (N : Nat → Nat) (AI : Option Addr) (cI : Nat) (w : World) (h1 : BFInts w gB 0 rs AI cI) (hA : ∀ b o, AI = some ⟨b, o, none⟩ → ∃ cur, w.heap[b]? = some (.cells cur 30 (0, 0)))
    (ho : OwnFInts w base rs (fun i => marksInts i 0 (N i))) (hap : ApartV rs) (hl : rs.length ≤ 2) (hN : ∀ i, N i ≤ 800) (hbase : base ≤ w.heap.size) :
    Calls Try.prog 57 #[.pointer (some ⟨gB, 0, none⟩)] w fun e w' => ∃ A c gs, e = .returned (.slice A gs.length c) ∧ w'.ownsRow w.heap.size 30 1 (.slice A gs.length c) gs.length gs ∧ GrownInts w w' rs gs N rs.length ∧ BFInts w' gB 0 rs AI cI ∧ Kp (InV rs) w w' := by
  have H1 := Lib.hid h1
  have HA := Lib.hid hA
  have HO : Hid (OwnFInts w base rs (fun i => marksInts i 0 (N i))) := Lib.hid ho
  have HAP := Lib.hid hap
  have HN := Lib.hid hN
  clear h1 hA ho hap hN
  go_enter Try.func57, Try.ntmps57
  go_wp2_with fail
  go_loopw [3, 4] (fun v i wr => ∃ t : Nat, t ≤ rs.length ∧ i = .int .i64 t ∧ ∃ v2 gs, v2 = v ∧ Hid (wr.ownsRow w.heap.size 30 1 v2 t gs) ∧ Hid (GrownInts w wr rs gs N t) ∧ Hid (∀ i v, t ≤ i → rs[i]? = some v → wr.ownsRow base 3 1 v (N i) (marksInts i 0 (N i))) ∧ Hid (Kp (InV rs) w wr)) (fun _ i _ => rs.length - (intOf i).toNat)
  case atStart => exact ⟨0, Nat.zero_le _, rfl, _, [], rfl, World.ownsRow_nil _ _ _ _, ⟨rfl, fun i h => by omega, fun i A c h => by omega, fun i v b h => by omega⟩, fun i v _ hv => by have := HO.out i v hv; simpa [marksInts_len] using this, Kp.refl _ _⟩
  case round =>
    obtain ⟨t, ht, rfl, v2, gs, rfl, HG, HGr, HOt, HK⟩ := hrel
    obtain ⟨Ag, cg, rfl⟩ := own_slice HG.out
    have HBt := Lib.hid (H1.out.kpS HA.out HO.out HK.out)
    have hbc := HBt.out.cell
    by_cases hlt : t < rs.length
    · obtain ⟨v, hv⟩ : ∃ v, rs[t]? = some v := ⟨rs[t], List.getElem?_eq_getElem hlt⟩
      obtain ⟨b1, o1, hAe, hc1⟩ := HBt.out.rd t _ hv
      have hot := HOt.out t v (Nat.le_refl _) hv
      obtain ⟨At, ct, rfl⟩ := own_slice hot
      subst hAe
      have hNt := HN.out t
      have HV := Lib.hid hv
      have HAB : Hid (∀ b o, At = some ⟨b, o, none⟩ → b < wr.heap.size) := Lib.hid (fun b o h => (own_lt hot (k := b) (by rw [h]; rfl)).2)
      have HL0 : Hid (LRowInts wr wr base At At ct ct t (N t) 0) := ⟨hot, RdS.ownS hot, .inl rfl, Kp.refl _ _, fun b hb => own_blk hot hb⟩
      have HAB2 : Hid (∀ b, (Value.slice At (N t) ct).ownBlock = some b → b < wr.heap.size) := Lib.hid (fun b hb => (own_lt hot hb).2)
      have HOT := Lib.hid hot
      clear hv hot
      have hk2 : (0 : Int) ≤ (t : Int) := by omega
      have hk3 : (t : Int) < (rs.length : Int) := by omega
      have hbw : base ≤ wr.heap.size := Nat.le_trans hbase HK.out.size
      go_upto_block 2 with fail
      go_cut [5] (fun v wx => ∃ Al cl, v = .slice Al (N t + 12) cl ∧ Hid (LRowInts wr wx base At Al ct cl t (N t) 12))
      case first =>
        go_wp2_with fail
        go_loopw [5, 6] (fun v i wq => ∃ n : Nat, n ≤ 12 ∧ i = .int .i64 n ∧ ∃ Al cl, v = .slice Al (N t + n) cl ∧ Hid (LRowInts _ wq base At Al ct cl t (N t) n)) (fun _ i _ => 12 - (intOf i).toNat)
        case atStart => exact ⟨0, by omega, rfl, At, ct, rfl, HL0⟩
        case round =>
          obtain ⟨n, hn, rfl, Al, cl, rfl, HL⟩ := hrel
          by_cases hn12 : n < 12
          · have hmk := markInts_any t (N t + n) 1 wr (by omega) (by omega)
            rw [show ((N t + n : Nat) : Int) = (N t : Int) + n by omega] at hmk
            have HMK := Lib.hid hmk
            clear hmk
            go_wp2_with fail
            refine HMK.out.mono ?_
            rintro e w1 ⟨vm, rfl, hm, hk1⟩
            obtain ⟨Am, cm, rfl⟩ := own_slice hm
            have HM := Lib.hid hm
            have HL1 := Lib.hid (HL.out.kept hk1)
            have hsz := HL1.out.kp.size
            clear hm hk1 HMK
            go_wp2_with (at_builtin; refine appKeep base rfl _ _ 30 3 (.int .i64 0) 8 rfl Try.underlying30 infoInts rfl (by decide) Al cl (N t + n) (marksInts t 0 (N t + n)) Am 1 cm (marksInts t (N t + n) 1) rfl rfl (own_nil HM.out) (RdS.ownS HM.out) (by rw [marksInts_len]) (fun u hu => (marksInts_good t (N t + n) 1 (by omega) (by omega) u hu).one) (by omega) HL1.out.own (by omega) (by omega) ?_; intro v3 w3 hown hgrow hpl hold hty; obtain ⟨A3, c3, rfl, hlr⟩ := HL1.out.more HAB.out HAB2.out hown hgrow hpl hold hty; have HL3 := Lib.hid hlr; clear hown hgrow hpl hold hty hlr)
            refine ⟨⟨n + 1, by omega, by simp, A3, c3, rfl, HL3⟩, by simp only [intOf]; omega⟩
          · obtain rfl : n = 12 := by omega
            go_wp2_with fail
            go_meet
            exact ⟨Al, cl, rfl, HL⟩
      case rest =>
        obtain ⟨Al, cl, rfl, HL⟩ := hcut
        have hmk := markInts_any t (N t + 12) 60 wc (by omega) (by omega)
        rw [show ((N t + 12 : Nat) : Int) = (N t : Int) + 12 by omega] at hmk
        have HMK := Lib.hid hmk
        clear hmk
        go_wp2_with fail
        refine HMK.out.mono ?_
        rintro e w1 ⟨vm, rfl, hm, hk1⟩
        obtain ⟨Am, cm, rfl⟩ := own_slice hm
        have HM := Lib.hid hm
        have HL1 := Lib.hid (HL.out.kept hk1)
        have hsz := HL1.out.kp.size
        clear hm hk1 HMK
        go_wp2_with (first
          | (at_builtin; refine appKeep base rfl _ _ 30 3 (.int .i64 0) 8 rfl Try.underlying30 infoInts rfl (by decide) Al cl (N t + 12) (marksInts t 0 (N t + 12)) Am 60 cm (marksInts t (N t + 12) 60) rfl rfl (own_nil HM.out) (RdS.ownS HM.out) (by rw [marksInts_len]) (fun u hu => (marksInts_good t (N t + 12) 60 (by omega) (by omega) u hu).one) (by omega) HL1.out.own (by omega) (by omega) ?_; intro v3 w3 hown hgrow hpl hold hty; obtain ⟨A3, c3, rfl, hlr⟩ := HL1.out.more HAB.out HAB2.out hown hgrow hpl hold hty; have HL3 := Lib.hid hlr; have hog : w3.ownsRow w.heap.size 30 1 (.slice Ag t cg) t gs := (hlr.kp.own HG.out (fun j hj h => (by obtain ⟨cur, hh⟩ := own_blk HG.out hj; obtain ⟨cur2, hh2⟩ := own_blk HOT.out h; exact blk_ne hh hh2 (by decide) rfl))); have HOG := Lib.hid hog; have hsz3 := hlr.kp.size; clear hown hgrow hpl hold hty hlr hog)
          | (at_builtin; refine app1 w.heap.size rfl _ _ 53 30 (.slice none 0 0) 24 rfl Try.underlying53 infoSInts rfl (by decide) (.slice Ag t cg) t gs (.slice A3 (N t + (12 + 60)) c3) rfl rfl rfl HOG.out (by have := HK.out.size; omega) (by omega) ?_; intro v4 w4 hown hgrow hfresh; have HO4 := Lib.hid hown; have HG4 := Lib.hid hgrow; clear hown hgrow hfresh))
        have hv := HV.out
        have hlt0 : ∀ b, (Value.slice At (N t) ct).ownBlock = some b → b < w.heap.size := fun b hb => (own_lt (HO.out t _ hv) hb).2
        have hk3' := HL3.out.kp
        have k34 : Kp (fun b => (Value.slice Ag t cg).ownBlock = some b) w3 w4 := (Kp.refl _ w3).grown HG4.out (fun k hk => .inl hk)
        have hty34 : ∀ b, (Value.slice Ag t cg).ownBlock = some b → ∃ cur, w3.heap[b]? = some (.cells cur 30 (0, 0)) := fun b hb => own_blk HOG.out hb
        have hnt : ∀ b cur, w3.heap[b]? = some (.cells cur 3 (0, 0)) → ¬ (Value.slice Ag t cg).ownBlock = some b := by
          intro b cur hh hb
          obtain ⟨cur2, hh2⟩ := hty34 b hb
          exact blk_ne hh2 hh (by decide) rfl
        have hgr3 : GrownInts w w3 rs gs N t := HGr.out.kp hk3' (fun b hb => .inr (.inl ⟨hlt0 b hb, fun i v hi hvi hvb => HAP.out i t v _ (by omega) hvi hv b hvb hb⟩))
        have hgr4 : GrownInts w w4 rs gs N t := hgr3.kp k34 (fun b hb => .inl (by obtain ⟨cur, hh⟩ := hty34 b hb; exact ⟨cur, 30, hh, by decide⟩))
        have hown4 : w4.ownsRow base 3 1 (.slice A3 (N t + (12 + 60)) c3) (N t + (12 + 60)) (marksInts t 0 (N t + (12 + 60))) := k34.own HL3.out.own (fun b hb => by obtain ⟨cur, hh⟩ := own_blk HL3.out.own hb; exact hnt b cur hh)
        refine ⟨⟨t + 1, by omega, by simp, v4, gs ++ [.slice A3 (N t + (12 + 60)) c3], rfl, HO4, ⟨by simp [hgr4.len], fun i hi => ?_, fun i A c hi hvi => ?_, fun i v b hi hvi hb => ?_⟩, fun i v hi hvi => ?_, ?_⟩, by simp only [intOf]; omega⟩
        · rcases Nat.lt_or_ge i t with h | h
          · obtain ⟨A, c, e1, e2⟩ := hgr4.g i h
            exact ⟨A, c, by rw [List.getElem?_append_left (by rw [hgr4.len]; exact h)]; exact e1, e2⟩
          · obtain rfl : i = t := by omega
            refine ⟨A3, c3, by rw [List.getElem?_append_right (by rw [hgr4.len]; exact Nat.le_refl _), hgr4.len]; simp, RdS.ownS hown4, fun b o hA => ?_⟩
            have hb3 : (Value.slice A3 (N i + (12 + 60)) c3).ownBlock = some b := by rw [hA]; rfl
            refine ⟨own_blk hown4 hb3, ?_⟩
            rcases HL3.out.place with he | hf
            · exact .inr ⟨_, hv, by rw [← he, hA]; rfl⟩
            · exact .inl (Nat.le_trans HK.out.size (hf b hb3))
        · rcases Nat.lt_or_ge i t with h | h
          · exact hgr4.r i A c h hvi
          · obtain rfl : i = t := by omega
            rw [hv] at hvi
            injection hvi with hvi
            injection hvi with hvi1 hvi2 hvi3
            subst hvi1
            refine HL3.out.old.kp k34 (fun b o hA => ?_)
            obtain ⟨cur, hh⟩ := HL3.out.oty b (by rw [hA]; rfl)
            exact hnt b cur hh
        · rcases Nat.lt_or_ge i t with h | h
          · exact hgr4.ty i v b h hvi hb
          · obtain rfl : i = t := by omega
            rw [hv] at hvi
            injection hvi with hvi
            subst hvi
            obtain ⟨cur, hh⟩ := HL3.out.oty b hb
            exact ⟨cur, k34.blk hh (hnt b cur hh)⟩
        · have h3 := hk3'.own (HOt.out i v (by omega) hvi) (fun b hb => HAP.out i t v _ (by omega) hvi hv b hb)
          exact k34.own h3 (fun b hb => by obtain ⟨cur, hh⟩ := own_blk h3 hb; exact hnt b cur hh)
        · exact (HK.out.trans hk3' (fun b hb => .inl ⟨t, _, hv, hb⟩)).trans k34 (fun b hb => .inr (own_lt HOG.out hb).1)
    · obtain rfl : t = rs.length := by omega
      go_wp2_with fail
      go_ret
      have hl2 := HGr.out.len
      refine ⟨Ag, cg, gs, by rw [hl2]; rfl, by rw [hl2]; exact HG.out, HGr.out, HBt.out, HK.out⟩

set_option maxRecDepth 100000 in
set_option maxHeartbeats 4000000 in
theorem markedInts_any (AI : Option Addr) (cI : Nat) (rs : List Value) (M : Nat → Nat) (w : World) (hr : RdS w AI rs) (hl : rs.length ≤ 2) (hM : ∀ i, M i ≤ 900)
    (hx : ∀ i, i < rs.length → ∃ A c, rs[i]? = some (.slice A (M i) c) ∧ RdS w A (marksInts i 0 (M i))) :
    Calls Try.prog 62 #[.slice AI rs.length cI] w fun e w' => e = .returned (.bool true) ∧ Kp (fun _ => False) w w' := by
  have HR := Lib.hid hr
  have HM := Lib.hid hM
  have HX := Lib.hid hx
  clear hr hM hx
  go_enter Try.func62, Try.ntmps62
  go_wp2_with fail
  go_loopw [3] (fun i wr => ∃ k : Nat, k ≤ rs.length ∧ i = .int .i64 k ∧ Hid (Kp (fun _ => False) w wr)) (fun i _ => rs.length - (intOf i).toNat)
  case atStart => exact ⟨0, Nat.zero_le _, rfl, Kp.refl _ _⟩
  case round =>
    obtain ⟨k, hk, rfl, HK⟩ := hrel
    by_cases hlt : k < rs.length
    · obtain ⟨A, c, hv, hra⟩ := HX.out k hlt
      obtain ⟨b1, o1, rfl, hc1⟩ := HR.out k _ hv
      have hc1 := HK.out.cell hc1 (fun h => h)
      have HRA := Lib.hid (hra.kp HK.out (fun _ _ _ h => h))
      have hMk := HM.out k
      have hlen := marksInts_len k 0 (M k)
      have HLEN := Lib.hid hlen
      have HGD := Lib.hid (marksInts_good k 0 (M k) (by omega) (by omega))
      have hk0 : (0 : Int) ≤ (k : Int) := by omega
      have hk1 : (k : Int) < (rs.length : Int) := by omega
      clear hv hra hlen
      go_wp2_with fail
      go_region_held3 (fun w' => w'.cell? ⟨b1, o1 + k, none⟩ = some (.slice A (M k) c))
        (first
          | (go_keep; done)
          | (exact hk7.cell hc1 (fun h => h)))
        (first
          | (go_at_call 86; refine (markInts_any k 0 (M k) _ (by omega) (by omega)).mono ?_; rintro e w7 ⟨vm, rfl, hm, hk7⟩; obtain ⟨Am, cm, rfl⟩ := own_slice hm; have HMo := Lib.hid hm; have HRA7 : Hid (RdS w7 A (marksInts k 0 (M k))) := Lib.hid ((show RdS wr.drew A _ from HRA.out).kp hk7 (fun _ _ _ h => h)))
          | (go_at_call 28; have hs := sameInts_refl A Am c cm (marksInts k 0 (M k)) _ HRA7.out (RdS.own HMo.out) (by rw [HLEN.out]; omega) HGD.out; rw [HLEN.out] at hs; refine hs.mono ?_; clear hs; rintro e w8 ⟨rfl, m8, rfl⟩))
      all_goals
        go_wp2_with fail
        exact ⟨⟨k + 1, by omega, by simp, Lib.hid ((HK.out.drew.trans hk7 (fun _ h => .inl h)).drewN _)⟩, by simp only [intOf]; omega⟩
    · go_wp2_with fail
      go_ret
      exact ⟨rfl, HK.out⟩

end Go.Proofs.Ytbhjckhhmcfpfaa

/- best.least: the least costs from each place on, and the tokens that keep them. Nothing old is written. -/
import Derived.Test.YtbhjckhhmcfpfaaSteps
namespace Go.Proofs.Ytbhjckhhmcfpfaa
open Go.RowKit
open Fb (fb fb_add fb_order)
set_option linter.unusedVariables false
set_option linter.unusedSimpArgs false

theorem run_store_complex {P : Program} {w : World} {a : Addr} {m : Mode} (k : FloatKind) (x y : Nat) : (store a (.complex k x y) m).run P w = stored P w a (.complex k x y) m := run_store P w a _ m rfl
attribute [local go_sem] run_store_complex

def costP (c : Nat × Nat) : Value := costV c.1 c.2
def costs (cs : List (Nat × Nat)) : List Value := cs.map costP
theorem costs_one (cs : List (Nat × Nat)) : ∀ u ∈ costs cs, u.oneCell' = true := by
  intro u hu
  obtain ⟨s, _, rfl⟩ := List.mem_map.1 hu
  rfl
theorem info_cost : (Try.prog.info? 64).map (fun i => (i.zero, i.size, i.bytes)) = some (some (.complex .f64 0 0), 1, 16) := by kernel_rfl

theorem mid_get {α : Type} (m : Nat) (z c : α) (r : List α) : (List.replicate m z ++ c :: r)[m]? = some c := by
  rw [List.getElem?_append_right (by simp)]
  simp
theorem mid_get_more {α : Type} (m j : Nat) (z c : α) (r : List α) : (List.replicate m z ++ c :: r)[m + (j + 1)]? = r[j]? := by
  rw [List.getElem?_append_right (by rw [List.length_replicate]; omega), List.length_replicate]
  rw [show m + (j + 1) - m = j + 1 by omega]
  rfl
theorem mid_set {α : Type} (m : Nat) (z c d : α) (r : List α) : (List.replicate m z ++ c :: r).set m d = List.replicate m z ++ d :: r := by
  induction m with
  | zero => rfl
  | succ m ih => rw [List.replicate_succ, List.cons_append, List.set_cons_succ, ih]; rfl
theorem rep_mid {α : Type} (m : Nat) (z : α) (r : List α) : List.replicate (m + 1) z ++ r = List.replicate m z ++ z :: r := by
  rw [List.replicate_succ', List.append_assoc]
  rfl

theorem costOf_wt (n : Nat) (w : World) (hn : n ≤ 4294967295) :
    Calls Try.prog 69 #[.int .i64 n] w fun e w' => e = .returned (.complex .f64 (fb 1) (fb (wt n))) ∧ Kp (fun _ => False) w w' := costOf_ok n w hn
theorem ord_eq (a b : Nat) (ha : a < 2 ^ 53) (hb : b < 2 ^ 53) : (FloatKind.f64.format.order (fb a) (fb b) == some Ordering.eq) = decide (a = b) := by
  have h := fb_order a b ha hb
  change FloatKind.f64.format.order (fb a) (fb b) = _ at h
  rw [h, Bool.eq_iff_iff]
  simp [Nat.compare_eq_eq]
theorem less_wt (t1 b1 t2 b2 : Nat) (L : Bool) (h1 : t1 < 2 ^ 53) (h2 : b1 < 2 ^ 53) (h3 : t2 < 2 ^ 53) (h4 : b2 < 2 ^ 53) (hL : L = decide (t1 < t2 ∨ t1 = t2 ∧ b1 < b2)) (w : World) :
    Calls Try.prog 36 #[.complex .f64 (fb t1) (fb b1), .complex .f64 (fb t2) (fb b2)] w fun e w' => e = .returned (.bool L) ∧ w' = w := by
  rw [hL]
  exact (less_any t1 b1 t2 b2 w h1 h2 h3 h4).mono fun e w' ⟨h, h'⟩ => ⟨h, h'.symm⟩
/-- The two rows. -/
structure LRel (n base gc gf : Nat) (cs fs : List (Nat × Nat)) (W wr : World) : Prop where
  cost : wr.ownsRow base 64 1 (.slice (some ⟨gc, 0, none⟩) (n + 1) (n + 1)) (n + 1) (costs cs)
  first : wr.ownsRow base 89 2 (.slice (some ⟨gf, 0, none⟩) n n) n (cells2 fs)
  kp : Kp (fun i => i = gc ∨ i = gf) W wr
theorem LRel.costAt {n base gc gf : Nat} {cs fs : List (Nat × Nat)} {W wr : World} (h : LRel n base gc gf cs fs W wr) {i : Nat} {c : Nat × Nat} (hc : cs[i]? = some c) :
    wr.cell? ⟨gc, i, none⟩ = some (costP c) ∧ wr.frozen? ⟨gc, i, none⟩ = false := by
  have hl : i < n + 1 := by
    have h1 := h.cost.1
    have h2 := (List.getElem?_eq_some_iff.1 hc).1
    unfold costs at h1
    rw [List.length_map] at h1
    omega
  obtain ⟨x, h1, h2, h3⟩ := own_cellV h.cost i hl
  refine ⟨?_, h3⟩
  unfold costs at h1
  rw [List.getElem?_map, hc] at h1
  rw [h2, ← h1]
  rfl
theorem own_cellS {w : World} {base g n cap size : Nat} {e : TypeId} {xs : List Value} (h : w.ownsRow base e size (.slice (some ⟨g, 0, none⟩) n cap) n xs) (i : Nat) (x : Value) (hx : xs[i]? = some x) :
    w.cell? ⟨g, i, none⟩ = some x ∧ w.frozen? ⟨g, i, none⟩ = false := by
  obtain ⟨cur, hh⟩ := own_blk h (k := g) rfl
  have hc := h.cells (g := g) rfl i x hx
  rw [add_plain] at hc
  exact ⟨hc, blk_free hh i⟩
theorem LRel.firstAt {n base gc gf : Nat} {cs fs : List (Nat × Nat)} {W wr : World} (h : LRel n base gc gf cs fs W wr) {i : Nat} {c : Nat × Nat} (hc : fs[i]? = some c) :
    (wr.cell? ⟨gf, i * 2, none⟩ = some (.int .i64 (c.1 : Int)) ∧ wr.frozen? ⟨gf, i * 2, none⟩ = false) ∧ (wr.cell? ⟨gf, i * 2 + 1, none⟩ = some (.int .i64 (c.2 : Int)) ∧ wr.frozen? ⟨gf, i * 2 + 1, none⟩ = false) := by
  obtain ⟨h1, h2⟩ := cells2_get fs i c hc
  exact ⟨own_cellS h.first _ _ h1, own_cellS h.first _ _ h2⟩
theorem LRel.kept {n base gc gf : Nat} {cs fs : List (Nat × Nat)} {W wr w2 : World} (h : LRel n base gc gf cs fs W wr) (k : Kp (fun _ => False) wr w2) : LRel n base gc gf cs fs W w2 :=
  ⟨k.own h.cost (fun _ _ h => h), k.own h.first (fun _ _ h => h), h.kp.trans k (fun _ h => h.elim)⟩
theorem LRel.stored {n base gc gf : Nat} {cs fs : List (Nat × Nat)} {W wr : World} (h : LRel n base gc gf cs fs W wr) (hne : gc ≠ gf) (i : Nat) (c x : Nat × Nat) :
    LRel n base gc gf (cs.set i c) (fs.set i x) W (((wr.setCell ⟨gc, i, none⟩ (costP c)).setCell ⟨gf, i * 2, none⟩ (.int .i64 (x.1 : Int))).setCell ⟨gf, i * 2 + 1, none⟩ (.int .i64 (x.2 : Int))) := by
  have k1 : Kp (fun j => j = gc) wr (wr.setCell ⟨gc, i, none⟩ (costP c)) := (Kp.refl (fun j => j = gc) wr).setCell (.inl rfl) _
  have c1 := (h.cost.stored i (costP c)).1
  have f1 := k1.own h.first (fun j hj e => by subst e; simp [Value.ownBlock] at hj; exact hne hj.symm)
  have f2 := (f1.stored (i * 2) (.int .i64 (x.1 : Int))).1
  have f3 := (f2.stored (i * 2 + 1) (.int .i64 (x.2 : Int))).1
  rw [cells2_set] at f3
  have k2 := ((Kp.refl (fun j => j = gf) (wr.setCell ⟨gc, i, none⟩ (costP c))).setCell (p := ⟨gf, i * 2, none⟩) (.inl rfl) (.int .i64 (x.1 : Int))).setCell (p := ⟨gf, i * 2 + 1, none⟩) (.inl rfl) (.int .i64 (x.2 : Int))
  have c2 := k2.own c1 (fun j hj e => by subst e; simp [Value.ownBlock] at hj; exact hne hj)
  have he : (costs cs).set i (costP c) = costs (cs.set i c) := by simp [costs, List.map_set]
  rw [he] at c2
  refine ⟨c2, f3, ?_⟩
  exact (h.kp.trans k1 (fun j hj => .inl (.inl hj))).trans k2 (fun j hj => .inl (.inr hj))
theorem LRel.storedC {n base gc gf : Nat} {cs fs : List (Nat × Nat)} {W wr : World} (h : LRel n base gc gf cs fs W wr) (hne : gc ≠ gf) (i : Nat) (c : Nat × Nat) :
    LRel n base gc gf (cs.set i c) fs W (wr.setCell ⟨gc, i, none⟩ (costP c)) := by
  have k1 : Kp (fun j => j = gc) wr (wr.setCell ⟨gc, i, none⟩ (costP c)) := (Kp.refl (fun j => j = gc) wr).setCell (.inl rfl) _
  have c1 := (h.cost.stored i (costP c)).1
  have f1 := k1.own h.first (fun j hj e => by subst e; simp [Value.ownBlock] at hj; exact hne hj.symm)
  have he : (costs cs).set i (costP c) = costs (cs.set i c) := by simp [costs, List.map_set]
  rw [he] at c1
  exact ⟨c1, f1, h.kp.trans k1 (fun j hj => .inl (.inl hj))⟩

/-- What the fold holds behind t steps. -/
def curAt (rest : List (Nat × Nat)) (xs : List (Nat × Nat)) (t : Nat) : (Nat × Nat) × (Nat × Nat) := (xs.take t).foldl (bstep rest) ((1099511627776, 1099511627776), (0, 0))
theorem curAt_succ (rest xs : List (Nat × Nat)) (t : Nat) (x : Nat × Nat) (h : xs[t]? = some x) : curAt rest xs (t + 1) = bstep rest (curAt rest xs t) x := by
  unfold curAt
  rw [List.take_add_one, h, Option.toList_some, List.foldl_append]
  rfl
theorem curAt_end (rest xs : List (Nat × Nat)) : curAt rest xs xs.length = bstM rest xs := by
  unfold curAt bstM
  rw [List.take_length]
theorem curAt_bd (rest xs : List (Nat × Nat)) (t : Nat) (h : ∀ x, x ∈ xs → (cst rest x).1 ≤ 1099511627776 ∧ (cst rest x).2 ≤ 1099511627776) : (curAt rest xs t).1.1 ≤ 1099511627776 ∧ (curAt rest xs t).1.2 ≤ 1099511627776 := by
  obtain ⟨h1, _, _⟩ := bfold rest (xs.take t) ((1099511627776, 1099511627776), (0, 0))
  unfold curAt
  rcases h1 with h1 | ⟨x, hx, h1⟩
  · rw [h1]; exact ⟨Nat.le_refl _, Nat.le_refl _⟩
  · rw [h1]; exact h x (List.mem_of_mem_take hx)

set_option maxRecDepth 100000 in
set_option maxHeartbeats 8000000 in
theorem least_any (g : Nat) (l : List ByteArray) (b : ByteArray) (w : World) (h : DICT w g l) (hd : DictOk l) (hb : b.size ≤ 1024) :
    Calls Try.prog 42 #[.pointer (some ⟨g, 0, none⟩), .string b] w fun e w' =>
      ∃ gc gf, e = .returned (.tuple #[.slice (some ⟨gc, 0, none⟩) (b.size + 1) (b.size + 1), .slice (some ⟨gf, 0, none⟩) b.size b.size]) ∧
        w'.ownsRow w.heap.size 64 1 (.slice (some ⟨gc, 0, none⟩) (b.size + 1) (b.size + 1)) (b.size + 1) (costs (opt l b b.size)) ∧
        w'.ownsRow w.heap.size 89 2 (.slice (some ⟨gf, 0, none⟩) b.size b.size) b.size (cells2 (firsts l b b.size)) ∧ Kp (fun _ => False) w w' := by
  have HD := Lib.hid h
  have HO := Lib.hid hd
  have hfew := hd.few
  clear h hd
  have tok1 : True := trivial
  go_enter Try.func42, Try.ntmps42
  go_wp2_with (first
    | (at_make; have _t := tok1; refine makeZ w.heap.size rfl _ _ 50 64 (.complex .f64 0 0) 1 16 rfl Try.underlying50 info_cost .i64 .i64 _ _ (b.size + 1) rfl rfl (by simp) (by simp) (by omega) (by omega) (Nat.le_refl _) ?_; intro w1 hown hgrow; have HO1 := Lib.hid hown; have HG1 := Lib.hid hgrow; clear hown hgrow tok1 _t)
    | (at_make; refine makeZ w.heap.size rfl _ _ 85 89 (.agg #[.int .i64 0, .int .i64 0]) 2 16 rfl Try.underlying85 info_step .i64 .i64 _ _ b.size rfl rfl rfl rfl (by omega) (by omega) HG1.out.size ?_; intro w2 hown hgrow; have HO2 := Lib.hid hown; have HG2 := Lib.hid hgrow; clear hown hgrow))
  obtain ⟨gc, HGC⟩ : ∃ gc, Hid (gc = w.heap.size) := ⟨_, Lib.hid rfl⟩
  obtain ⟨gf, HGF⟩ : ∃ gf, Hid (gf = w1.heap.size) := ⟨_, Lib.hid rfl⟩
  have hgc : w.heap.size ≤ gc := by rw [HGC.out]; exact Nat.le_refl _
  have hgf : w.heap.size ≤ gf := by rw [HGF.out]; exact HG1.out.size
  have hO1 := HO1.out
  have hO2 := HO2.out
  rw [← HGC.out, madeCells_one _ _ rfl] at hO1
  rw [← HGF.out, madeCells_pair] at hO2
  have hgl : gc < w1.heap.size := (own_lt hO1 (k := gc) rfl).2
  have hgl2 : gf < w2.heap.size := (own_lt hO2 (k := gf) rfl).2
  have hne : gc ≠ gf := by have := HGF.out; omega
  have HL0 : Hid (LRel b.size w.heap.size gc gf (List.replicate (b.size + 1) (0, 0)) (List.replicate b.size (0, 0)) w2 w2) := by
    refine ⟨?_, hO2, Kp.refl _ _⟩
    have hk : Kp (fun _ => False) w1 w2 := (Kp.refl _ w1).grown HG2.out (fun k hk => by cases hk)
    have := hk.own hO1 (fun _ _ h => h)
    have := own_low this hgc
    simpa [costs, costP, costV, fb_zero] using this
  have HK2 : Hid (Kp (fun _ => False) w w2) := ((Kp.refl _ w).grown HG1.out (fun k hk => by cases hk)).grown HG2.out (fun k hk => by cases hk)
  rw [← HGC.out, ← HGF.out]
  clear HO1 HO2 HG1 HG2 hO1 hO2
  refine (all_any g l w2 (HD.out.kp HK2.out) (by omega)).mono ?_
  rintro e w3 ⟨v, rfl, ho, hk⟩
  obtain ⟨A1, cap1, rfl⟩ := own_slice ho
  have HR := Lib.hid (RdS.own ho)
  have HNE : Hid (∀ bb o, A1 = some ⟨bb, o, none⟩ → ¬ (bb = gc ∨ bb = gf)) := by
    intro bb o h h2
    have h3 := (own_lt ho (k := bb) (by rw [h]; rfl)).1
    have h4 := HGF.out
    have h5 := HK2.out.size
    omega
  have HK3 := Lib.hid (HK2.out.trans hk (fun _ h => .inl h))
  have HL1 : Hid (LRel b.size w.heap.size gc gf (List.replicate (b.size + 1) (0, 0)) (List.replicate b.size (0, 0)) w3 w3) := by
    have := HL0.out.kept hk
    exact ⟨this.cost, this.first, Kp.refl _ _⟩
  clear ho hk HL0 HK2
  go_wp2_with fail
  go_loopw [9] (fun i wr => ∃ m : Nat, m ≤ b.size ∧ i = .int .i64 ((m : Int) - 1) ∧ Hid (LRel b.size w.heap.size gc gf (List.replicate m (0, 0) ++ opt l b (b.size - m)) (List.replicate m (0, 0) ++ firsts l b (b.size - m)) w3 wr)) (fun i _ => (intOf i + 1).toNat)
  case atStart =>
    refine ⟨b.size, Nat.le_refl _, rfl, ?_⟩
    rw [Nat.sub_self]
    have h := HL1.out
    rw [List.replicate_succ'] at h
    rw [show firsts l b 0 = [] from rfl, List.append_nil]
    exact h
  case round =>
    obtain ⟨m, hm, rfl, HL⟩ := hrel
    by_cases hlt : 1 ≤ m
    · obtain ⟨m, rfl⟩ : ∃ m', m = m' + 1 := ⟨m - 1, by omega⟩
      have hmm : ((m + 1 : Nat) : Int) - 1 = (m : Int) := by omega
      rw [hmm]
      obtain ⟨k, HKk⟩ : ∃ k, Hid (k = b.size - (m + 1)) := ⟨_, Lib.hid rfl⟩
      have hkb : k + (m + 1) = b.size := by have := HKk.out; omega
      rw [← HKk.out] at HL
      have hL := HL.out
      rw [rep_mid, rep_mid] at hL
      have HL := Lib.hid hL
      obtain ⟨hc1, hf1⟩ := HL.out.costAt (mid_get m (0, 0) (0, 0) (opt l b k))
      clear hL
      have hmi : (0 : Int) ≤ (m : Int) := by omega
      go_wp2_with fail
      refine (most_any wr).mono ?_
      rintro e w' ⟨rfl, rfl⟩
      unfold costP at hc1
      unfold costV at *
      go_wp2_with fail
      obtain ⟨W4, hW4⟩ : ∃ W4, W4 = wr.setCell ⟨gc, m, none⟩ (.complex .f64 (fb 1099511627776) (fb 1099511627776)) := ⟨_, rfl⟩
      have HL4 : Hid (LRel b.size w.heap.size gc gf (List.replicate m (0, 0) ++ (1099511627776, 1099511627776) :: opt l b k) (List.replicate m (0, 0) ++ (0, 0) :: firsts l b k) w3 W4) := by
        refine Lib.hid ?_
        have h := HL.out.storedC hne m (1099511627776, 1099511627776)
        rw [mid_set] at h
        rw [hW4]
        exact h
      rw [← hW4]
      clear hW4 hc1 hf1
      have hmb : m < b.size := by omega
      refine (steps_any A1 cap1 l b m W4 (HR.out.kp HL4.out.kp HNE.out) HO.out (by omega) hmb).mono ?_
      rintro e w5 ⟨vs, rfl, hos, hk5⟩
      obtain ⟨xs, HXS⟩ : ∃ xs, Hid (xs = stepsM l b m) := ⟨_, Lib.hid rfl⟩
      rw [← HXS.out] at hos
      have hxl : xs.length ≤ 101 := by
        rw [HXS.out]
        unfold stepsM
        have := stepsP_len b m l 0
        rw [List.length_append]
        simp only [List.length_cons, List.length_nil]
        omega
      have hsm := opt_small HO.out b (by omega) k (by omega)
      have HST : Hid (∀ x, x ∈ xs → 1 ≤ x.2 ∧ m + x.2 ≤ b.size ∧ x.1 < 356 ∧ (cst (opt l b k) x).1 ≤ 1025 ∧ (cst (opt l b k) x).2 ≤ 41000 ∧ ((opt l b k).getD (x.2 - 1) (0, 0)).1 ≤ 1024 ∧ ((opt l b k).getD (x.2 - 1) (0, 0)).2 ≤ 40960 ∧ (opt l b k)[x.2 - 1]? = some ((opt l b k).getD (x.2 - 1) (0, 0))) := by
        refine Lib.hid fun x hx => ?_
        rw [HXS.out] at hx
        obtain ⟨_, s1, s2, s3, _⟩ := step_mng HO.out b m hmb x hx
        have h1 := hsm _ (getD_mem_opt l b k (x.2 - 1) (by omega))
        have hw := wt_bd x.1
        have hl := opt_len l b k
        refine ⟨s1, s2, by omega, ?_, ?_, by omega, by omega, ?_⟩
        · simp only [cst]; omega
        · simp only [cst]; omega
        · rw [List.getD_eq_getElem?_getD, List.getElem?_eq_getElem (show x.2 - 1 < (opt l b k).length by omega)]
          rfl
      obtain ⟨As, caps, rfl⟩ := own_slice hos
      have HL5 : Hid (LRel b.size w.heap.size gc gf (List.replicate m (0, 0) ++ (curAt (opt l b k) xs 0).1 :: opt l b k) (List.replicate m (0, 0) ++ (curAt (opt l b k) xs 0).2 :: firsts l b k) w3 w5) := HL4.out.kept hk5
      have hgw : gc < W4.heap.size ∧ gf < W4.heap.size := ⟨(own_lt HL4.out.cost (k := gc) rfl).2, (own_lt HL4.out.first (k := gf) rfl).2⟩
      have HRS : Hid (RdS w5 As (cells2 xs)) := by
        refine Lib.hid fun j x hj => ?_
        rcases hos.2 with ⟨h1, h2⟩ | ⟨gg, cap, cur, h1, _⟩
        · have := hos.1
          rw [h2, Nat.zero_mul] at this
          rw [List.eq_nil_of_length_eq_zero this] at hj
          simp at hj
        · injection h1 with h1 h2 h3
          subst h1
          have := own_cellS hos j x hj
          exact ⟨gg, 0, rfl, by rw [Nat.zero_add]; exact this.1⟩
      have HNS : Hid (∀ bb o, As = some ⟨bb, o, none⟩ → ¬ (bb = gc ∨ bb = gf)) := by
        intro bb o h h2
        have h3 := (own_lt hos (k := bb) (by rw [h]; rfl)).1
        omega
      clear hos hk5 hsm HL4 hgw HL
      go_wp2_with fail
      go_loopw [38] (fun i wr => ∃ t : Nat, t ≤ xs.length ∧ i = .int .i64 t ∧ Hid (LRel b.size w.heap.size gc gf (List.replicate m (0, 0) ++ (curAt (opt l b k) xs t).1 :: opt l b k) (List.replicate m (0, 0) ++ (curAt (opt l b k) xs t).2 :: firsts l b k) w5 wr)) (fun i _ => xs.length - (intOf i).toNat)
      case atStart => exact ⟨0, Nat.zero_le _, rfl, ⟨HL5.out.cost, HL5.out.first, Kp.refl _ _⟩⟩
      case round =>
        obtain ⟨t, ht, rfl, HL⟩ := hrel
        by_cases htl : t < xs.length
        · obtain ⟨x, hx⟩ : ∃ x, xs[t]? = some x := ⟨xs[t], List.getElem?_eq_getElem htl⟩
          obtain ⟨hg1, hg2⟩ := cells2_get xs t x hx
          obtain ⟨gs, os, rfl, hs1⟩ := HRS.out _ _ hg1
          obtain ⟨gs2, os2, hA2, hs2⟩ := HRS.out _ _ hg2
          injection hA2 with hA2
          injection hA2 with hA2 hA3
          subst hA2 hA3
          have hs1 := HL.out.kp.cell hs1 (HNS.out _ _ rfl)
          have hs2 := HL.out.kp.cell hs2 (HNS.out _ _ rfl)
          rw [← Nat.add_assoc] at hs2
          obtain ⟨q1, q2, q3, q4, q5, q6, q7, q8⟩ := HST.out x (List.mem_of_getElem? hx)
          have HCU := Lib.hid (curAt_succ (opt l b k) xs t x hx)
          have hbd := curAt_bd (opt l b k) xs t (fun y hy => by have := HST.out y hy; omega)
          obtain ⟨cur, HCUR⟩ : ∃ cur, Hid (cur = curAt (opt l b k) xs t) := ⟨_, Lib.hid rfl⟩
          rw [← HCUR.out] at HL HCU hbd
          obtain ⟨⟨c1, c2⟩, ⟨y1, y2⟩⟩ := cur
          obtain ⟨r, HRr⟩ : ∃ r, Hid (r = (opt l b k).getD (x.2 - 1) (0, 0)) := ⟨_, Lib.hid rfl⟩
          rw [← HRr.out] at q6 q7 q8
          obtain ⟨r1, r2⟩ := r
          obtain ⟨x1, x2⟩ := x
          simp only at q1 q2 q3 q4 q5 q6 q7 q8 hs1 hs2 hbd HL HCU
          obtain ⟨z1, z2⟩ := hbd
          have hcm := (HL.out.costAt (mid_get m (0, 0) (c1, c2) (opt l b k))).1
          have hcf := (HL.out.costAt (mid_get m (0, 0) (c1, c2) (opt l b k))).2
          have hcr := (HL.out.costAt (i := m + x2) (c := (r1, r2)) (by rw [show m + x2 = m + ((x2 - 1) + 1) by omega, mid_get_more]; exact q8)).1
          have hff := HL.out.firstAt (mid_get m (0, 0) (y1, y2) (firsts l b k))
          clear hx hg1 hg2 q8
          obtain ⟨⟨hfa, hfa2⟩, ⟨hfb, hfb2⟩⟩ := hff
          unfold costP costV at hcm hcr
          simp only at hcm hcr hfa hfb
          go_wp2_with fail
          obtain ⟨ga, HGA⟩ : ∃ ga, Hid (ga = wr.heap.size) := ⟨_, Lib.hid rfl⟩
          obtain ⟨W6, hW6⟩ : ∃ W6, W6 = wr.alloc (.cells #[.int .i64 (x1 : Int), .int .i64 (x2 : Int)] 89) := ⟨_, rfl⟩
          have HA6 : Hid (W6.heap[ga]? = some (.cells #[.int .i64 (x1 : Int), .int .i64 (x2 : Int)] 89 (0, 0))) := by rw [hW6, HGA.out]; exact blk_new wr _
          have hk6 : Kp (fun _ => False) wr W6 := by rw [hW6]; exact (Kp.refl _ wr).alloc _
          have HL6 := Lib.hid (HL.out.kept hk6)
          have hcm := hk6.cell hcm (fun h => h)
          have hcr := hk6.cell hcr (fun h => h)
          have hfa := hk6.cell hfa (fun h => h)
          have hfb := hk6.cell hfb (fun h => h)
          have d0 : W6.cell? ⟨ga, 0, none⟩ = some (.int .i64 (x1 : Int)) := (blk_cell HA6.out 0).trans rfl
          have d1 : W6.cell? ⟨ga, 1, none⟩ = some (.int .i64 (x2 : Int)) := (blk_cell HA6.out 1).trans rfl
          rw [← HGA.out, ← hW6]
          clear hW6 hk6 hs1 hs2
          have p53 : 2 ^ 53 = 9007199254740992 := by decide
          have hwx := wt_bd x1
          have hadd := fun w' => run_complex_sum (P := Try.prog) w' .add (.inl rfl) 64 .f64 _ _ _ _ _ _ (cost_sum 1 (wt x1) r1 r2 (by omega) (by omega))
          have hi1 : (0 : Int) ≤ (m : Int) + x2 := by omega
          have hi2 : (m : Int) + x2 < (b.size : Int) + 1 := by omega
          have hi3 : IntKind.i64.wrap ((m : Int) + x2) = (m : Int) + x2 := by rw [IntKind.wrap_i64]; omega
          have hi4 : ((m : Int) + x2).toNat = m + x2 := by omega
          clear p53
          go_cut [12] (fun v wx => v = .complex .f64 (fb (1 + r1)) (fb (wt x1 + r2)) ∧ Hid (Kp (fun _ => False) W6 wx))
          case first =>
            go_region_held3 (fun w' => w'.cell? ⟨ga, 0, none⟩ = some (.int .i64 (x1 : Int)) ∧ w'.cell? ⟨ga, 1, none⟩ = some (.int .i64 (x2 : Int)) ∧ w'.cell? ⟨gc, m + x2, none⟩ = some (.complex .f64 (fb r1) (fb r2)))
              (first
                | (go_keep; done)
                | (exact ⟨hk7.cell d0 (fun h => h), hk7.cell d1 (fun h => h), hk7.cell hcr (fun h => h)⟩))
              (first
                | (go_at_call 69; refine (costOf_wt x1 _ (by omega)).mono ?_; rintro e w7 ⟨rfl, hk7⟩))
            all_goals
              go_wp2_with fail
              go_meet
              exact ⟨rfl, (Kp.refl (fun _ => False) W6).drew.trans hk7 (fun _ h => .inl h)⟩
          case rest =>
            obtain ⟨rfl, hkc⟩ := hcut
            have hcm := hkc.cell hcm (fun h => h)
            have hfa := hkc.cell hfa (fun h => h)
            have hfb := hkc.cell hfb (fun h => h)
            have d0 := hkc.cell d0 (fun h => h)
            have d1 := hkc.cell d1 (fun h => h)
            have HLc := Lib.hid (HL6.out.kept hkc)
            clear hadd hi1 hi2 hi3 hi4 hcr hkc HL6
            obtain ⟨L, HLb⟩ : ∃ L, Hid (L = decide (1 + r1 < c1 ∨ 1 + r1 = c1 ∧ wt x1 + r2 < c2)) := ⟨_, Lib.hid rfl⟩
            obtain ⟨D, HDb⟩ : ∃ D, Hid (D = (L || (decide (1 + r1 = c1 ∧ wt x1 + r2 = c2) && decide (y2 < x2)))) := ⟨_, Lib.hid rfl⟩
            have hA := ord_eq (1 + r1) c1 (by omega) (by omega)
            have hB := ord_eq (wt x1 + r2) c2 (by omega) (by omega)
            have hLs := less_wt (1 + r1) (wt x1 + r2) c1 c2 L (by omega) (by omega) (by omega) (by omega) HLb.out
            have HLS := Lib.hid hLs
            clear hLs
            have hmi2 : (m : Int) < (b.size : Int) := by omega
            have hmi3 : (m : Int) < (b.size : Int) + 1 := by omega
            go_wp2_with fail
            go_cut [76] (fun v wx => v = .bool D ∧ Hid (Kp (fun _ => False) wc wx))
            case first =>
              cases L with
              | true =>
                go_quiet ((go_at_call 36; exact Calls.quiet_of_same (HLS.out _)))
                go_wp2_with fail
                go_meet
                exact ⟨by rw [HDb.out]; rfl, (Kp.refl (fun _ => False) wc).drewN _⟩
              | false =>
                by_cases ha : 1 + r1 = c1
                · by_cases hbb : wt x1 + r2 = c2
                  · have hA' : (FloatKind.f64.format.order (fb (1 + r1)) (fb c1) == some Ordering.eq) = true := by rw [hA]; simp [ha]
                    have hB' : (FloatKind.f64.format.order (fb (wt x1 + r2)) (fb c2) == some Ordering.eq) = true := by rw [hB]; simp [hbb]
                    have HD2 : Hid (D = decide (y2 < x2)) := by
                      refine Lib.hid ?_
                      rw [HDb.out]
                      simp [ha, hbb]
                    clear hA hB ha hbb
                    go_quiet ((go_at_call 36; exact Calls.quiet_of_same (HLS.out _)))
                    go_wp2_with fail
                    go_meet
                    exact ⟨by rw [HD2.out], (Kp.refl (fun _ => False) wc).drewN _⟩
                  · have hA' : (FloatKind.f64.format.order (fb (1 + r1)) (fb c1) == some Ordering.eq) = true := by rw [hA]; simp [ha]
                    have hB' : (FloatKind.f64.format.order (fb (wt x1 + r2)) (fb c2) == some Ordering.eq) = false := by rw [hB]; simp [hbb]
                    have HD2 : Hid (D = false) := by
                      refine Lib.hid ?_
                      rw [HDb.out]
                      simp [hbb]
                    clear hA hB ha hbb
                    go_quiet ((go_at_call 36; exact Calls.quiet_of_same (HLS.out _)))
                    go_wp2_with fail
                    go_meet
                    exact ⟨by rw [HD2.out], (Kp.refl (fun _ => False) wc).drewN _⟩
                · have hA' : (FloatKind.f64.format.order (fb (1 + r1)) (fb c1) == some Ordering.eq) = false := by rw [hA]; simp [ha]
                  have HD2 : Hid (D = false) := by
                    refine Lib.hid ?_
                    rw [HDb.out]
                    simp [ha]
                  clear hA hB ha
                  go_quiet ((go_at_call 36; exact Calls.quiet_of_same (HLS.out _)))
                  go_wp2_with fail
                  go_meet
                  exact ⟨by rw [HD2.out], (Kp.refl (fun _ => False) wc).drewN _⟩
            case rest =>
              obtain ⟨rfl, hkc⟩ := hcut
              rename_i wold
              have hcm := hkc.cell hcm (fun h => h)
              have hfa := hkc.cell hfa (fun h => h)
              have hfb := hkc.cell hfb (fun h => h)
              have d0 := hkc.cell d0 (fun h => h)
              have d1 := hkc.cell d1 (fun h => h)
              have HLd := Lib.hid (HLc.out.kept hkc)
              clear hkc hA hB HLc
              have HBS : Hid (curAt (opt l b k) xs (t + 1) = if D = true then ((1 + r1, wt x1 + r2), (x1, x2)) else ((c1, c2), (y1, y2))) := by
                refine Lib.hid ?_
                rw [HCU.out]
                unfold bstep cst
                simp only
                rw [← HRr.out, HDb.out, HLb.out]
                simp only [lexLt, Prod.mk.injEq, Bool.or_eq_true, Bool.and_eq_true, decide_eq_true_eq]
              cases D with
              | false =>
                go_wp2_with fail
                refine ⟨⟨t + 1, by omega, by simp, ?_⟩, by simp only [intOf]; omega⟩
                refine Lib.hid ?_
                rw [HBS.out]
                exact HLd.out
              | true =>
                have g1 := (HLd.out.costAt (mid_get m (0, 0) (c1, c2) (opt l b k))).2
                obtain ⟨⟨g2, g3⟩, ⟨g4, g5⟩⟩ := HLd.out.firstAt (mid_get m (0, 0) (y1, y2) (firsts l b k))
                have hn1 : ga ≠ gc := by
                  have h1 := (own_lt HL.out.cost (k := gc) rfl).2
                  have h2 := HGA.out
                  omega
                have hn2 : ga ≠ gf := by
                  have h1 := (own_lt HL.out.first (k := gf) rfl).2
                  have h2 := HGA.out
                  omega
                have hn3 := hn1.symm
                have hn4 := hn2.symm
                have hn5 := hne.symm
                go_wp2_with fail
                go_region
                all_goals
                  go_wp2_with fail
                  refine ⟨⟨t + 1, by omega, by simp, ?_⟩, by simp only [intOf]; omega⟩
                  refine Lib.hid ?_
                  rw [HBS.out]
                  have h := HLd.out.stored hne m (1 + r1, wt x1 + r2) (x1, x2)
                  rw [mid_set, mid_set] at h
                  exact ⟨h.cost, h.first, h.kp.drew⟩
        · obtain rfl : t = xs.length := by omega
          go_wp2_with fail
          refine ⟨⟨m, by omega, by simp, ?_⟩, by simp only [intOf]; omega⟩
          refine Lib.hid ?_
          have hl := HL.out
          rw [curAt_end, HXS.out] at hl
          have e : b.size - m = k + 1 := by omega
          have e2 : b.size - (k + 1) = m := by omega
          rw [e]
          simp only [opt, firsts]
          rw [e2]
          exact ⟨hl.cost, hl.first, HL5.out.kp.trans hl.kp (fun i h => .inl h)⟩
    · go_wp2_with fail
      go_ret2
      obtain rfl : m = 0 := by omega
      have hl := HL.out
      rw [Nat.sub_zero] at hl
      refine ⟨gc, gf, rfl, by simpa using hl.cost, by simpa using hl.first, HK3.out.trans hl.kp (fun i h => .inr (h.elim (fun h => by rw [h]; exact hgc) (fun h => by rw [h]; exact hgf)))⟩

end Go.Proofs.Ytbhjckhhmcfpfaa

/- The reference's choices and Costs. Nothing old is written. -/
import Derived.Test.YtbhjckhhmcfpfaaLeast
import Derived.Test.YtbhjckhhmcfpfaaPick
namespace Go.Proofs.Ytbhjckhhmcfpfaa
open Go.RowKit
set_option linter.unusedVariables false
set_option linter.unusedSimpArgs false

section
variable {P : Program}
/-- append(v, struct), v owned: at a step of a region that draws. -/
theorem sappS {w : World} {ops : Array Oper} {o : Oper} {a : Act} {K : Act → World → Prop} {Q : Exit → Act → World → Prop} {E : Prop} (base : Nat) (hgd : o.guard = none) (s x : Operand) (t e : TypeId) (z : Value) (size bytes : Nat)
    (ho : o.op = .call { callee := .builtin .append, args := #[s, x], argTypes := #[t, t] })
    (ht : P.underlying t = some (.slice e)) (hinfo : (P.info? e).map (fun i => (i.zero, i.size, i.bytes)) = some (some z, size, bytes)) (hz : z.cells.size = size) (hs0 : 0 < size) (hb0 : 0 < bytes)
    (v : Value) (n : Nat) (xs : List Value) (cs : Array Value) (hs : a.eval s = v) (B : Nat) (hx : a.eval x = .slice (some ⟨B, 0, none⟩) 1 1) (hcs : cs.size = size) (h1 : ∀ u ∈ cs.toList, u.oneCell' = true)
    (HO : w.ownsRow base e size v n xs) (hb : w.heap[B]? = some (.cells cs e (0, 0))) (hbase : base ≤ w.heap.size) (hl : (n + 1) * bytes ≤ 140737488355328)
    (h : ∀ v1 w1, w1.ownsRow base e size v1 (n + 1) (xs ++ cs.toList) → w.grownBy w1 v.ownBlock → (∀ k, v1.ownBlock = some k → v.ownBlock = some k ∨ w.heap.size ≤ k) → K (a.put o.dst v1) w1) :
    if Region.wanted o (yielded ops a.tmps) = true then Oper.wp P o a w K Q else E := by
  obtain ⟨i0, hi, hzz⟩ := Option.map_eq_some_iff.1 hinfo
  simp only [Prod.mk.injEq] at hzz
  obtain ⟨hz0, hz1, hz2⟩ := hzz
  have hlen : n + 1 ≤ 140737488355328 := Nat.le_trans (Nat.le_mul_of_pos_right _ hb0) hl
  refine step_append_lies w hgd s x t ho base e i0 z size bytes ht hi hz0 hz1 hz2 hz hs0 v n xs hs HO ⟨B, 0, none⟩ 1 1 cs.toList hx (by rw [Array.length_toList, hcs, Nat.one_mul]) (fun j u hj => ?_) h1 (by omega) (by simp only [maxLen]; omega) hl hbase _ rfl ?_
  · rw [add_plain, blk_cell hb j]
    simpa using hj
  intro g cap w' hown hg hat _
  refine h _ w' hown hg (fun k hk => ?_)
  have : g = k := by simpa [Value.ownBlock] using hk
  subst this
  rcases hat with hat | hat
  · exact .inl hat
  · exact .inr (by omega)
end
theorem info_choice : (Try.prog.info? 95).map (fun i => (i.zero, i.size, i.bytes)) = some (some (.agg #[.int .i64 0, .int .i64 0]), 2, 16) := by kernel_rfl

theorem choices_at (l : List ByteArray) (b : ByteArray) (at_ i : Nat) (m : Nat) (h : (stands l b at_)[i]? = some (m : Int)) : (choicesM l b at_)[i]? = some (tokenN l b at_ m, m) := by
  unfold choicesM
  have hl : i < (stands l b at_).length := (List.getElem?_eq_some_iff.1 h).1
  rw [List.getElem?_append_left (by rw [List.length_map]; exact hl), List.getElem?_map, h]
  simp

set_option maxRecDepth 100000 in
set_option maxHeartbeats 4000000 in
theorem choices_any (A : Option Addr) (cap0 : Nat) (l : List ByteArray) (b : ByteArray) (at_ : Nat) (w : World) (hr : RdS w A (strs l)) (hd : DictOk l) (hb : b.size ≤ 140737488351232) (hat : at_ < b.size) :
    Calls Try.prog 45 #[.slice A l.length cap0, .string b, .int .i64 at_] w fun e w' =>
      ∃ v, e = .returned v ∧ w'.ownsRow w.heap.size 95 2 v (choicesM l b at_).length (cells2 (choicesM l b at_)) ∧ Kp (fun _ => False) w w' := by
  have HR := Lib.hid hr
  have HO := Lib.hid hd
  have hfew := hd.few
  clear hr hd
  go_enter Try.func45, Try.ntmps45
  go_wp2_with fail
  refine (stands_any A cap0 l b at_ w HR.out (by omega) hb (by omega)).mono ?_
  rintro e w1 ⟨vs, rfl, ho, hk⟩
  obtain ⟨S, HSd⟩ : ∃ S, Hid (S = stands l b at_) := ⟨_, Lib.hid rfl⟩
  rw [← HSd.out] at ho
  have hs40 : S.length ≤ 40 := by
    rw [HSd.out]
    unfold stands
    have := standsTo_len l b at_ (min 40 (b.size - at_))
    omega
  obtain ⟨As, caps, rfl⟩ := own_slice ho
  have HSo := Lib.hid (RdS.own ho)
  have HK := Lib.hid hk
  clear ho hk
  go_wp2_with fail
  go_loopw [7, 9] (fun v i wr => ∃ k : Nat, k ≤ S.length ∧ i = .int .i64 k ∧ ∃ xs, Hid (xs = (choicesM l b at_).take k) ∧ xs.length ≤ k ∧ ∃ v2, v2 = v ∧ Hid (wr.ownsRow w.heap.size 95 2 v2 xs.length (cells2 xs)) ∧ (∀ i, v2.ownBlock = some i → w1.heap.size ≤ i) ∧ Hid (Kp (fun _ => False) w1 wr)) (fun _ i _ => S.length - (intOf i).toNat)
  case atStart => exact ⟨0, Nat.zero_le _, rfl, [], by show _ = _; simp, Nat.le_refl _, _, rfl, World.ownsRow_nil _ _ _ _, fun i hi => by simp [Value.ownBlock] at hi, Kp.refl _ _⟩
  case round =>
    obtain ⟨k, hk, rfl, xs, HY, hxl, v2, rfl, HV, hfr, HKr⟩ := hrel
    have HFR := Lib.hid hfr
    clear hfr
    obtain ⟨A1, cap1, rfl⟩ := own_slice HV.out
    by_cases hlt : k < S.length
    · obtain ⟨y, bb, o, hy, rfl, hc⟩ := HSo.out.at_ hlt
      have hym : y ∈ stands l b at_ := by rw [← HSd.out]; exact List.mem_of_getElem? hy
      obtain ⟨m, m1, m2, rfl, _⟩ := (mem_standsTo l b at_ _ y).1 hym
      have hat2 : at_ + m ≤ b.size := by omega
      have HCA := Lib.hid (choices_at l b at_ k m (by rw [← HSd.out]; exact hy))
      obtain ⟨tk, HTK⟩ : ∃ tk, Hid (tk = tokenN l b at_ m) := ⟨_, Lib.hid rfl⟩
      rw [← HTK.out] at HCA
      have hb1 : bb < w1.heap.size := World.block_lt_of_cell? w1 ⟨bb, o + k, none⟩ hc
      have hcr := HKr.out.cell hc (fun h => h)
      have HTok := Lib.hid (token_any A cap0 l b at_ m)
      have HKw := Lib.hid (HK.out.trans HKr.out (fun _ h => .inl h))
      have hi0 : (0 : Int) ≤ (k : Int) := by omega
      have hi1 : (k : Int) < (S.length : Int) := by omega
      clear hy hym
      go_wp2_with fail
      go_region_held3 (fun w' => w'.cell? ⟨bb, o + k, none⟩ = some (.int .i64 (m : Int)))
        (first
          | (go_keep; done)
          | (exact HKr.out.alloc _ |>.cell hc (fun h => h))
          | (exact (World.cell?_of_block (hgrow.block bb (by simp; have := HKr.out.size; omega) (fun h => by have := HFR.out bb h.symm; omega))).trans (((HKr.out.alloc _).cell hc (fun h => h)))))
        (first
          | (go_at_call 32; refine (token_any A cap0 l b at_ m _ (HR.out.kp HKw.out.drew (fun _ _ _ h => h)) (by omega) hb hat hat2).mono ?_; rintro e w' ⟨rfl, rfl⟩; rw [← HTK.out])
          | (refine sappS w.heap.size (by rfl) _ _ 92 95 (.agg #[.int .i64 0, .int .i64 0]) 2 16 (by rfl) Try.underlying92 info_choice rfl (by decide) (by decide) (.slice A1 xs.length cap1) xs.length (cells2 xs) #[.int .i64 (tk : Int), .int .i64 (m : Int)] (by rfl) _ (by rfl) rfl (two_one _ _ _ _) (HV.out.alloc _).drew (blk_new_drew _ _) (Nat.le_trans HKw.out.size (le_alloc_drew _ _)) (by omega) ?_; intro v3 w3 hown hgrow hfresh))
      have HO3 := Lib.hid hown
      have HG3 := Lib.hid hgrow
      have HF3 := Lib.hid hfresh
      clear hown hgrow hfresh
      go_wp2_with fail
      refine ⟨⟨k + 1, by omega, by simp, xs ++ [(tk, m)], ?_, by simp; omega, _, rfl, ?_, ?_, (HKr.out.alloc _).drew.grown HG3.out (fun i hi => .inr (HFR.out i hi))⟩, by simp only [intOf]; omega⟩
      · show _ = _
        rw [List.take_add_one, HCA.out, HY.out]
        rfl
      · refine Lib.hid ?_
        have := HO3.out
        rw [cells2_append]
        simpa [cells2, pairC] using this
      · intro i hi
        rcases HF3.out i hi with h | h
        · exact HFR.out i h
        · exact Nat.le_trans HKr.out.size (Nat.le_trans (le_alloc_drew wr _) h)
    · have hSk : k = S.length := by omega
      have HC : Hid (choicesM l b at_ = xs ++ [(byteAt b at_, 1)]) := by
        refine Lib.hid ?_
        rw [HY.out, hSk, HSd.out]
        unfold choicesM
        rw [← List.length_map (f := fun (n : Int) => (tokenN l b at_ n.toNat, n.toNat)), List.take_left]
      have HKw := Lib.hid (HK.out.trans HKr.out (fun _ h => .inl h))
      have HWB : Hid (wrap64 (b[at_].toNat : Int) = (byteAt b at_ : Int)) := wrap_byte b at_ hat
      clear hSk
      go_wp2_with (at_builtin; refine appS w.heap.size rfl _ _ 92 95 (.agg #[.int .i64 0, .int .i64 0]) 2 16 rfl Try.underlying92 info_choice rfl (by decide) (by decide) (.slice A1 xs.length cap1) xs.length (cells2 xs) #[.int .i64 (wrap64 (b[at_].toNat : Int)), .int .i64 1] rfl rfl rfl (two_one _ _ _ _) HV.out HKw.out.size (by omega) ?_; intro v3 w3 hown hgrow hfresh; have HG := Lib.hid hgrow; have HO3 := Lib.hid hown; clear hgrow hown hfresh)
      go_ret
      have h3 := HO3.out
      rw [HWB.out] at h3
      refine ⟨v3, rfl, ?_, HKw.out.grown HG.out (fun i hi => .inr (own_lt HV.out hi).1)⟩
      rw [HC.out, cells2_append, List.length_append]
      simpa [cells2, pairC] using h3

/-- The two rows of numbers. -/
structure RRel (n base gt gb : Nat) (cs : List (Nat × Nat)) (W wr : World) : Prop where
  fst : wr.ownsRow base 3 1 (.slice (some ⟨gt, 0, none⟩) n n) n (ints .i64 (cs.map fun c => (c.1 : Int)))
  snd : wr.ownsRow base 3 1 (.slice (some ⟨gb, 0, none⟩) n n) n (ints .i64 (cs.map fun c => (c.2 : Int)))
  kp : Kp (fun i => i = gt ∨ i = gb) W wr
theorem RRel.at_ {n base gt gb : Nat} {cs : List (Nat × Nat)} {W wr : World} (h : RRel n base gt gb cs W wr) {i : Nat} {c : Nat × Nat} (hc : cs[i]? = some c) :
    (wr.cell? ⟨gt, i, none⟩ = some (.int .i64 (c.1 : Int)) ∧ wr.frozen? ⟨gt, i, none⟩ = false) ∧ (wr.cell? ⟨gb, i, none⟩ = some (.int .i64 (c.2 : Int)) ∧ wr.frozen? ⟨gb, i, none⟩ = false) :=
  ⟨own_cellS h.fst i _ (by simp [ints, hc]), own_cellS h.snd i _ (by simp [ints, hc])⟩
theorem RRel.kept {n base gt gb : Nat} {cs : List (Nat × Nat)} {W wr w2 : World} (h : RRel n base gt gb cs W wr) (k : Kp (fun _ => False) wr w2) : RRel n base gt gb cs W w2 :=
  ⟨k.own h.fst (fun _ _ h => h), k.own h.snd (fun _ _ h => h), h.kp.trans k (fun _ h => h.elim)⟩
theorem RRel.stored {n base gt gb : Nat} {cs : List (Nat × Nat)} {W wr : World} (h : RRel n base gt gb cs W wr) (hne : gt ≠ gb) (i : Nat) (c : Nat × Nat) :
    RRel n base gt gb (cs.set i c) W ((wr.setCell ⟨gt, i, none⟩ (.int .i64 (c.1 : Int))).setCell ⟨gb, i, none⟩ (.int .i64 (c.2 : Int))) := by
  have k1 : Kp (fun j => j = gt) wr (wr.setCell ⟨gt, i, none⟩ (.int .i64 (c.1 : Int))) := (Kp.refl (fun j => j = gt) wr).setCell (.inl rfl) _
  have c1 := own_store h.fst i (c.1 : Int)
  have f1 := k1.own h.snd (fun j hj e => by subst e; simp [Value.ownBlock] at hj; exact hne hj.symm)
  have f2 := own_store f1 i (c.2 : Int)
  have k2 : Kp (fun j => j = gb) (wr.setCell ⟨gt, i, none⟩ (.int .i64 (c.1 : Int))) _ := (Kp.refl (fun j => j = gb) (wr.setCell ⟨gt, i, none⟩ (.int .i64 (c.1 : Int)))).setCell (p := ⟨gb, i, none⟩) (.inl rfl) (.int .i64 (c.2 : Int))
  have c2 := k2.own c1 (fun j hj e => by subst e; simp [Value.ownBlock] at hj; exact hne hj)
  rw [← List.map_set (f := fun c : Nat × Nat => (c.1 : Int))] at c2
  rw [← List.map_set (f := fun c : Nat × Nat => (c.2 : Int))] at f2
  exact ⟨c2, f2, (h.kp.trans k1 (fun j hj => .inl (.inl hj))).trans k2 (fun j hj => .inl (.inr hj))⟩

theorem own_made {w : World} {base n g : Nat} {M : Array Value} (hM : M.toList = ints .i64 (List.replicate n 0)) (hn : n ≤ 2000) (hb : base ≤ g) (hg : w.heap[g]? = some (.cells M 3 (0, 0))) : w.ownsRow base 3 1 (.slice (some ⟨g, 0, none⟩) n n) n (ints .i64 (List.replicate n 0)) := by
  have hs : M.size = n := by rw [← Array.length_toList, hM]; simp [ints]
  refine ⟨by simp [ints], .inr ⟨g, n, M, rfl, hb, hg, Nat.le_refl _, by simp only [maxLen]; omega, by rw [hs, Nat.mul_one], ?_⟩⟩
  rw [List.take_of_length_le (by rw [Array.length_toList, hs]; omega)]
  exact hM
theorem RRel.two {w : World} {n : Nat} {M : Array Value} (hM : M.toList = ints .i64 (List.replicate n 0)) (hn : n ≤ 2000) (gt gb : Nat) (h : gt = w.heap.size ∧ gb = w.heap.size + 1 ∨ gb = w.heap.size ∧ gt = w.heap.size + 1) :
    RRel n w.heap.size gt gb (List.replicate n (0, 0)) ((w.alloc (.cells M 3)).alloc (.cells M 3)).drew ((w.alloc (.cells M 3)).alloc (.cells M 3)).drew := by
  have h1 : ((w.alloc (.cells M 3)).alloc (.cells M 3)).drew.heap[w.heap.size]? = some (.cells M 3 (0, 0)) := blk_old (blk_new w _) _
  have h2 : ((w.alloc (.cells M 3)).alloc (.cells M 3)).drew.heap[w.heap.size + 1]? = some (.cells M 3 (0, 0)) := by
    have := blk_new (w.alloc (.cells M 3)) (.cells M 3)
    rw [show (w.alloc (.cells M 3)).heap.size = w.heap.size + 1 by simp] at this
    exact this
  have e : ∀ f : Nat × Nat → Int, f (0, 0) = 0 → ints .i64 ((List.replicate n ((0, 0) : Nat × Nat)).map f) = ints .i64 (List.replicate n 0) := by
    intro f hf
    rw [List.map_replicate, hf]
  rcases h with ⟨rfl, rfl⟩ | ⟨rfl, rfl⟩
  · exact ⟨by rw [e _ rfl]; exact own_made hM hn (Nat.le_refl _) h1, by rw [e _ rfl]; exact own_made hM hn (by omega) h2, Kp.refl _ _⟩
  · exact ⟨by rw [e _ rfl]; exact own_made hM hn (by omega) h2, by rw [e _ rfl]; exact own_made hM hn (Nat.le_refl _) h1, Kp.refl _ _⟩

def rcurAt (rest : List (Nat × Nat)) (xs : List (Nat × Nat)) (t : Nat) : Nat × Nat := (xs.take t).foldl (rstep rest) (1099511627776, 0)
theorem rcurAt_succ (rest xs : List (Nat × Nat)) (t : Nat) (x : Nat × Nat) (h : xs[t]? = some x) : rcurAt rest xs (t + 1) = rstep rest (rcurAt rest xs t) x := by
  unfold rcurAt
  rw [List.take_add_one, h, Option.toList_some, List.foldl_append]
  rfl
theorem rcurAt_end (rest xs : List (Nat × Nat)) : rcurAt rest xs xs.length = rstM rest xs := by
  unfold rcurAt rstM
  rw [List.take_length]
theorem rcurAt_bd (rest xs : List (Nat × Nat)) (t : Nat) (h : ∀ x, x ∈ xs → (cst rest x).1 ≤ 1099511627776 ∧ (cst rest x).2 ≤ 1099511627776) : (rcurAt rest xs t).1 ≤ 1099511627776 ∧ (rcurAt rest xs t).2 ≤ 1099511627776 := by
  obtain ⟨h1, _, _⟩ := rfold rest (xs.take t) (1099511627776, 0)
  unfold rcurAt
  rcases h1 with h1 | ⟨x, hx, h1⟩
  · rw [h1]; exact ⟨Nat.le_refl _, by decide⟩
  · rw [h1]; exact h x (List.mem_of_mem_take hx)
theorem RdS.ownS {w : World} {base n c size : Nat} {e : TypeId} {A : Option Addr} {xs : List Value} (ho : w.ownsRow base e size (.slice A n c) n xs) : RdS w A xs := by
  intro j x hj
  rcases ho.2 with ⟨h1, h2⟩ | ⟨gg, cap, cur, h1, _⟩
  · have := ho.1
    rw [h2, Nat.zero_mul] at this
    rw [List.eq_nil_of_length_eq_zero this] at hj
    simp at hj
  · injection h1 with h1 h2 h3
    subst h1
    have := own_cellS ho j x hj
    exact ⟨gg, 0, rfl, by rw [Nat.zero_add]; exact this.1⟩
theorem rbits_wt (n : Nat) (w : World) (hn : n ≤ 4294967295) :
    Calls Try.prog 46 #[.int .i64 n] w fun e w' => e = .returned (.int .i64 (wt n : Nat)) ∧ Kp (fun _ => False) w w' := by
  refine (rbits_ok n w hn).mono fun e w' ⟨h1, h2⟩ => ⟨?_, h2⟩
  rw [h1]
  unfold wt
  have : ((8 * (num n).length : Nat) : Int) = 8 * ((num n).length : Int) := by omega
  rw [this]

set_option maxRecDepth 100000 in
set_option maxHeartbeats 8000000 in
theorem rcosts_any (A : Option Addr) (cap0 : Nat) (l : List ByteArray) (b : ByteArray) (w : World) (hr : RdS w A (strs l)) (hd : DictOk l) (hb : b.size ≤ 1024) :
    Calls Try.prog 26 #[.slice A l.length cap0, .string b] w fun e w' =>
      ∃ gt gb, e = .returned (.tuple #[.slice (some ⟨gt, 0, none⟩) (b.size + 1) (b.size + 1), .slice (some ⟨gb, 0, none⟩) (b.size + 1) (b.size + 1)]) ∧
        RRel (b.size + 1) w.heap.size gt gb (opt l b b.size) w' w' ∧ Kp (fun _ => False) w w' := by
  have HR := Lib.hid hr
  have HO := Lib.hid hd
  have hfew := hd.few
  clear hr hd
  obtain ⟨i0, hi, hz0, hz1, hz2⟩ := info_parts info_int2
  obtain ⟨M, hM⟩ : ∃ M, M = madeCells (Value.int .i64 0).cells ((((b.size : Nat) : Int) + 1).toNat * i0.size) := ⟨_, rfl⟩
  have hMl : M.toList = ints .i64 (List.replicate (b.size + 1) 0) := by
    rw [hM, hz1, show (((b.size : Nat) : Int) + 1).toNat = b.size + 1 by omega, madeCells_one _ _ rfl]
    simp [ints]
  have hmk : ∀ W : World, (Instr.makeSlice 30 (.int .i64 ((b.size : Int) + 1)) (.int .i64 ((b.size : Int) + 1))).run Try.prog W = .ok (.slice (some ⟨W.heap.size, 0, none⟩) (b.size + 1) (b.size + 1)) (W.alloc (.cells M 3)) := fun W => by
    have h := run_make (P := Try.prog) W 30 3 i0 (.int .i64 0) Try.underlying30 hi hz0 .i64 .i64 ((b.size : Int) + 1) ((b.size : Int) + 1) (by omega) (by omega) (by rw [hz2]; omega) (by omega)
    rw [← hM] at h
    exact h
  have hMs : M.size = b.size + 1 := by rw [← Array.length_toList, hMl]; simp [ints]
  have HML := Lib.hid hMl
  have HMS := Lib.hid hMs
  have hw1 : IntKind.i64.wrap ((b.size : Int) + 1) = (b.size : Int) + 1 := by rw [IntKind.wrap_i64]; omega
  clear hM hMl hMs hi hz0 hz1 hz2
  go_enter Try.func26, Try.ntmps26
  go_wp2_with fail
  go_cut [6, 7] (fun v6 v7 wx => ∃ gt gb, v6 = .slice (some ⟨gt, 0, none⟩) (b.size + 1) (b.size + 1) ∧ v7 = .slice (some ⟨gb, 0, none⟩) (b.size + 1) (b.size + 1) ∧ gt ≠ gb ∧ Hid (RRel (b.size + 1) w.heap.size gt gb (List.replicate (b.size + 1) (0, 0)) wx wx) ∧ Hid (Kp (fun _ => False) w wx))
  case first =>
    go_region
    all_goals
      go_wp2_with fail
      go_meet
      first
        | exact ⟨w.heap.size, w.heap.size + 1, rfl, rfl, by omega, RRel.two HML.out (by omega) _ _ (.inl ⟨rfl, rfl⟩), (((Kp.refl _ w).alloc _).alloc _).drew⟩
        | exact ⟨w.heap.size + 1, w.heap.size, rfl, rfl, by omega, RRel.two HML.out (by omega) _ _ (.inr ⟨rfl, rfl⟩), (((Kp.refl _ w).alloc _).alloc _).drew⟩
  case rest =>
    obtain ⟨gt, gb, rfl, rfl, hne, HL1, HK1⟩ := hcut
    clear HML HMS hmk hw1
    have hgt : w.heap.size ≤ gt := (own_lt HL1.out.fst (k := gt) rfl).1
    have hgb : w.heap.size ≤ gb := (own_lt HL1.out.snd (k := gb) rfl).1
    obtain ⟨W3, HW3⟩ : ∃ W3, Hid (W3 = wc) := ⟨_, Lib.hid rfl⟩
    have hlr : ∀ bb o, A = some ⟨bb, o, none⟩ → l ≠ [] → bb < w.heap.size := by
      intro bb o hA hl
      obtain ⟨z, b2, o2, h1, h2, h3⟩ := HR.out.atS (List.length_pos_iff.2 hl)
      rw [hA] at h2
      injection h2 with h2
      injection h2 with h2 h4
      subst h2 h4
      exact World.block_lt_of_cell? w _ h3
    go_wp2_with fail
    go_loopw [8] (fun i wr => ∃ m : Nat, m ≤ b.size ∧ i = .int .i64 ((m : Int) - 1) ∧ Hid (RRel (b.size + 1) w.heap.size gt gb (List.replicate m (0, 0) ++ opt l b (b.size - m)) wc wr)) (fun i _ => (intOf i + 1).toNat)
    case atStart =>
      refine ⟨b.size, Nat.le_refl _, rfl, ?_⟩
      rw [Nat.sub_self]
      have h := HL1.out
      rw [List.replicate_succ'] at h
      exact h
    case round =>
      obtain ⟨m, hm, rfl, HL⟩ := hrel
      have HKw := Lib.hid (HK1.out.trans HL.out.kp (fun i h => .inr (h.elim (fun h => by rw [h]; exact hgt) (fun h => by rw [h]; exact hgb))))
      by_cases hlt : 1 ≤ m
      · obtain ⟨m, rfl⟩ : ∃ m', m = m' + 1 := ⟨m - 1, by omega⟩
        have hmm : ((m + 1 : Nat) : Int) - 1 = (m : Int) := by omega
        rw [hmm]
        obtain ⟨k, HKk⟩ : ∃ k, Hid (k = b.size - (m + 1)) := ⟨_, Lib.hid rfl⟩
        have hkb : k + (m + 1) = b.size := by have := HKk.out; omega
        rw [← HKk.out] at HL
        have hL := HL.out
        rw [rep_mid] at hL
        have HL := Lib.hid hL
        obtain ⟨⟨hc1, hf1⟩, ⟨hc2, hf2⟩⟩ := HL.out.at_ (mid_get m (0, 0) (0, 0) (opt l b k))
        clear hL
        have hmi : (0 : Int) ≤ (m : Int) := by omega
        have hne2 := hne.symm
        go_wp2_with fail
        obtain ⟨W4, hW4⟩ : ∃ W4, W4 = (wr.setCell ⟨gt, m, none⟩ (.int .i64 1099511627776)).setCell ⟨gb, m, none⟩ (.int .i64 0) := ⟨_, rfl⟩
        have HL4 : Hid (RRel (b.size + 1) w.heap.size gt gb (List.replicate m (0, 0) ++ (1099511627776, 0) :: opt l b k) wc W4) := by
          refine Lib.hid ?_
          have h := HL.out.stored hne m (1099511627776, 0)
          rw [mid_set] at h
          rw [hW4]
          exact h
        rw [← hW4]
        have HK4 := Lib.hid (HK1.out.trans HL4.out.kp (fun i h => .inr (h.elim (fun h => by rw [h]; exact hgt) (fun h => by rw [h]; exact hgb))))
        clear hW4 hc1 hf1 hc2 hf2
        have hmb : m < b.size := by omega
        refine (choices_any A cap0 l b m W4 (HR.out.kp HK4.out (fun _ _ _ h => h)) HO.out (by omega) hmb).mono ?_
        rintro e w5 ⟨vs, rfl, hos, hk5⟩
        obtain ⟨xs, HXS⟩ : ∃ xs, Hid (xs = choicesM l b m) := ⟨_, Lib.hid rfl⟩
        rw [← HXS.out] at hos
        have hxl : xs.length ≤ 41 := by
          rw [HXS.out]
          unfold choicesM stands
          have := standsTo_len l b m (min 40 (b.size - m))
          rw [List.length_append, List.length_map]
          simp only [List.length_cons, List.length_nil]
          omega
        have hsm := opt_small HO.out b (by omega) k (by omega)
        have HST : Hid (∀ x, x ∈ xs → 1 ≤ x.2 ∧ m + x.2 ≤ b.size ∧ x.1 < 356 ∧ (cst (opt l b k) x).1 ≤ 1025 ∧ (cst (opt l b k) x).2 ≤ 41000 ∧ ((opt l b k).getD (x.2 - 1) (0, 0)).1 ≤ 1024 ∧ ((opt l b k).getD (x.2 - 1) (0, 0)).2 ≤ 40960 ∧ (opt l b k)[x.2 - 1]? = some ((opt l b k).getD (x.2 - 1) (0, 0))) := by
          refine Lib.hid fun x hx => ?_
          rw [HXS.out] at hx
          obtain ⟨_, s1, s2, s3, _⟩ := step_mng HO.out b m hmb x ((mem_choices HO.out b m (by omega) x).1 hx)
          have h1 := hsm _ (getD_mem_opt l b k (x.2 - 1) (by omega))
          have hw := wt_bd x.1
          have hl := opt_len l b k
          refine ⟨s1, s2, by omega, ?_, ?_, by omega, by omega, ?_⟩
          · simp only [cst]; omega
          · simp only [cst]; omega
          · rw [List.getD_eq_getElem?_getD, List.getElem?_eq_getElem (show x.2 - 1 < (opt l b k).length by omega)]
            rfl
        obtain ⟨As, caps, rfl⟩ := own_slice hos
        have HL5 : Hid (RRel (b.size + 1) w.heap.size gt gb (List.replicate m (0, 0) ++ rcurAt (opt l b k) xs 0 :: opt l b k) wc w5) := HL4.out.kept hk5
        have hgw : gt < W4.heap.size ∧ gb < W4.heap.size := ⟨(own_lt HL4.out.fst (k := gt) rfl).2, (own_lt HL4.out.snd (k := gb) rfl).2⟩
        have HRS := Lib.hid (RdS.ownS hos)
        have HNS : Hid (∀ bb o, As = some ⟨bb, o, none⟩ → ¬ (bb = gt ∨ bb = gb)) := by
          intro bb o h h2
          have h3 := (own_lt hos (k := bb) (by rw [h]; rfl)).1
          omega
        clear hos hk5 hsm HL4 hgw HL HK4
        go_wp2_with fail
        go_loopw [39] (fun i wr => ∃ t : Nat, t ≤ xs.length ∧ i = .int .i64 t ∧ Hid (RRel (b.size + 1) w.heap.size gt gb (List.replicate m (0, 0) ++ rcurAt (opt l b k) xs t :: opt l b k) w5 wr)) (fun i _ => xs.length - (intOf i).toNat)
        case atStart => exact ⟨0, Nat.zero_le _, rfl, ⟨HL5.out.fst, HL5.out.snd, Kp.refl _ _⟩⟩
        case round =>
          obtain ⟨t, ht, rfl, HL⟩ := hrel
          by_cases htl : t < xs.length
          · obtain ⟨x, hx⟩ : ∃ x, xs[t]? = some x := ⟨xs[t], List.getElem?_eq_getElem htl⟩
            obtain ⟨hg1, hg2⟩ := cells2_get xs t x hx
            obtain ⟨gs, os, rfl, hs1⟩ := HRS.out _ _ hg1
            obtain ⟨gs2, os2, hA2, hs2⟩ := HRS.out _ _ hg2
            injection hA2 with hA2
            injection hA2 with hA2 hA3
            subst hA2 hA3
            have hs1 := HL.out.kp.cell hs1 (HNS.out _ _ rfl)
            have hs2 := HL.out.kp.cell hs2 (HNS.out _ _ rfl)
            rw [← Nat.add_assoc] at hs2
            obtain ⟨q1, q2, q3, q4, q5, q6, q7, q8⟩ := HST.out x (List.mem_of_getElem? hx)
            have HCU := Lib.hid (rcurAt_succ (opt l b k) xs t x hx)
            have hbd := rcurAt_bd (opt l b k) xs t (fun y hy => by have := HST.out y hy; omega)
            obtain ⟨cur, HCUR⟩ : ∃ cur, Hid (cur = rcurAt (opt l b k) xs t) := ⟨_, Lib.hid rfl⟩
            rw [← HCUR.out] at HL HCU hbd
            obtain ⟨c1, c2⟩ := cur
            obtain ⟨r, HRr⟩ : ∃ r, Hid (r = (opt l b k).getD (x.2 - 1) (0, 0)) := ⟨_, Lib.hid rfl⟩
            rw [← HRr.out] at q6 q7 q8
            obtain ⟨r1, r2⟩ := r
            obtain ⟨x1, x2⟩ := x
            simp only at q1 q2 q3 q4 q5 q6 q7 q8 hs1 hs2 hbd HL HCU
            obtain ⟨z1, z2⟩ := hbd
            obtain ⟨⟨hcm, hcf⟩, ⟨hdm, hdf⟩⟩ := HL.out.at_ (mid_get m (0, 0) (c1, c2) (opt l b k))
            obtain ⟨⟨hcr, _⟩, ⟨hdr, _⟩⟩ := HL.out.at_ (i := m + x2) (c := (r1, r2)) (by rw [show m + x2 = m + ((x2 - 1) + 1) by omega, mid_get_more]; exact q8)
            simp only at hcm hdm hcr hdr
            clear hx hg1 hg2 q8
            go_wp2_with fail
            obtain ⟨ga, HGA⟩ : ∃ ga, Hid (ga = wr.heap.size) := ⟨_, Lib.hid rfl⟩
            obtain ⟨W6, hW6⟩ : ∃ W6, W6 = wr.alloc (.cells #[.int .i64 (x1 : Int), .int .i64 (x2 : Int)] 95) := ⟨_, rfl⟩
            have HA6 : Hid (W6.heap[ga]? = some (.cells #[.int .i64 (x1 : Int), .int .i64 (x2 : Int)] 95 (0, 0))) := by rw [hW6, HGA.out]; exact blk_new wr _
            have hk6 : Kp (fun _ => False) wr W6 := by rw [hW6]; exact (Kp.refl _ wr).alloc _
            have HL6 := Lib.hid (HL.out.kept hk6)
            have hcm := hk6.cell hcm (fun h => h)
            have hdm := hk6.cell hdm (fun h => h)
            have hcr := hk6.cell hcr (fun h => h)
            have hdr := hk6.cell hdr (fun h => h)
            have d0 : W6.cell? ⟨ga, 0, none⟩ = some (.int .i64 (x1 : Int)) := (blk_cell HA6.out 0).trans rfl
            have d1 : W6.cell? ⟨ga, 1, none⟩ = some (.int .i64 (x2 : Int)) := (blk_cell HA6.out 1).trans rfl
            rw [← HGA.out, ← hW6]
            clear hW6 hk6 hs1 hs2 hcf hdf
            have hwx := wt_bd x1
            have hi1 : (0 : Int) ≤ (m : Int) + x2 := by omega
            have hi2 : (m : Int) + x2 < (b.size : Int) + 1 := by omega
            have hi3 : IntKind.i64.wrap ((m : Int) + x2) = (m : Int) + x2 := by rw [IntKind.wrap_i64]; omega
            have hi4 : ((m : Int) + x2).toNat = m + x2 := by omega
            have hi5 : IntKind.i64.wrap (1 + (r1 : Int)) = 1 + (r1 : Int) := by rw [IntKind.wrap_i64]; omega
            have hi6 : IntKind.i64.wrap ((wt x1 : Int) + (r2 : Int)) = (wt x1 : Int) + (r2 : Int) := by rw [IntKind.wrap_i64]; omega
            go_cut [11, 12] (fun v11 v12 wx => v11 = .int .i64 (1 + (r1 : Int)) ∧ v12 = .int .i64 ((wt x1 : Int) + (r2 : Int)) ∧ Hid (Kp (fun _ => False) W6 wx))
            case first =>
              go_region_held3 (fun w' => w'.cell? ⟨ga, 0, none⟩ = some (.int .i64 (x1 : Int)) ∧ w'.cell? ⟨ga, 1, none⟩ = some (.int .i64 (x2 : Int)) ∧ w'.cell? ⟨gt, m + x2, none⟩ = some (.int .i64 (r1 : Int)) ∧ w'.cell? ⟨gb, m + x2, none⟩ = some (.int .i64 (r2 : Int)))
                (first
                  | (go_keep; done)
                  | (exact ⟨hk7.cell d0 (fun h => h), hk7.cell d1 (fun h => h), hk7.cell hcr (fun h => h), hk7.cell hdr (fun h => h)⟩))
                (first
                  | (go_at_call 46; refine (rbits_wt x1 _ (by omega)).mono ?_; rintro e w7 ⟨rfl, hk7⟩))
              all_goals
                go_wp2_with fail
                go_meet
                exact ⟨rfl, rfl, (Kp.refl (fun _ => False) W6).drew.trans hk7 (fun _ h => .inl h)⟩
            case rest =>
              obtain ⟨rfl, rfl, hkc⟩ := hcut
              rename_i wold
              have hcm := hkc.cell hcm (fun h => h)
              have hdm := hkc.cell hdm (fun h => h)
              have HLc := Lib.hid (HL6.out.kept hkc)
              clear hi1 hi2 hi3 hi4 hi5 hi6 hcr hdr hkc HL6 d0 d1
              have HBS : Hid (rcurAt (opt l b k) xs (t + 1) = if lexLt (1 + r1, wt x1 + r2) (c1, c2) then (1 + r1, wt x1 + r2) else (c1, c2)) := by
                refine Lib.hid ?_
                rw [HCU.out]
                unfold rstep cst
                simp only
                rw [← HRr.out]
              have hne2 := hne.symm
              by_cases hL : 1 + (r1 : Int) < (c1 : Int)
              · have HLX : Hid (lexLt (1 + r1, wt x1 + r2) (c1, c2)) := Lib.hid (.inl (by simp only; omega))
                have g1 := HLc.out.at_ (mid_get m (0, 0) (c1, c2) (opt l b k))
                obtain ⟨⟨_, g2⟩, ⟨_, g3⟩⟩ := g1
                go_wp2_with fail
                refine ⟨⟨t + 1, by omega, by simp, ?_⟩, by simp only [intOf]; omega⟩
                refine Lib.hid ?_
                rw [HBS.out, if_pos HLX.out]
                have h := HLc.out.stored hne m (1 + r1, wt x1 + r2)
                rw [mid_set] at h
                have e1 : ((1 + r1 : Nat) : Int) = 1 + (r1 : Int) := by omega
                have e2 : ((wt x1 + r2 : Nat) : Int) = (wt x1 : Int) + (r2 : Int) := by omega
                simp only [e1, e2] at h
                exact h
              · by_cases hE : 1 + (r1 : Int) = (c1 : Int)
                · have hEb : (1 + (r1 : Int) == (c1 : Int)) = true := by simp [hE]
                  by_cases hS : (wt x1 : Int) + (r2 : Int) < (c2 : Int)
                  · have HLX : Hid (lexLt (1 + r1, wt x1 + r2) (c1, c2)) := Lib.hid (.inr (by simp only; omega))
                    clear hE
                    have g1 := HLc.out.at_ (mid_get m (0, 0) (c1, c2) (opt l b k))
                    obtain ⟨⟨_, g2⟩, ⟨_, g3⟩⟩ := g1
                    go_wp2_with fail
                    refine ⟨⟨t + 1, by omega, by simp, ?_⟩, by simp only [intOf]; omega⟩
                    refine Lib.hid ?_
                    rw [HBS.out, if_pos HLX.out]
                    have h := HLc.out.stored hne m (1 + r1, wt x1 + r2)
                    rw [mid_set] at h
                    have e1 : ((1 + r1 : Nat) : Int) = 1 + (r1 : Int) := by omega
                    have e2 : ((wt x1 + r2 : Nat) : Int) = (wt x1 : Int) + (r2 : Int) := by omega
                    simp only [e1, e2] at h
                    exact h
                  · have HLX : Hid (¬ lexLt (1 + r1, wt x1 + r2) (c1, c2)) := Lib.hid (by unfold lexLt; simp only; omega)
                    clear hE
                    go_wp2_with fail
                    refine ⟨⟨t + 1, by omega, by simp, ?_⟩, by simp only [intOf]; omega⟩
                    refine Lib.hid ?_
                    rw [HBS.out, if_neg HLX.out]
                    exact HLc.out
                · have hEb : (1 + (r1 : Int) == (c1 : Int)) = false := by simp [hE]
                  have HLX : Hid (¬ lexLt (1 + r1, wt x1 + r2) (c1, c2)) := Lib.hid (by unfold lexLt; simp only; omega)
                  go_wp2_with fail
                  refine ⟨⟨t + 1, by omega, by simp, ?_⟩, by simp only [intOf]; omega⟩
                  refine Lib.hid ?_
                  rw [HBS.out, if_neg HLX.out]
                  exact HLc.out
          · obtain rfl : t = xs.length := by omega
            go_wp2_with fail
            refine ⟨⟨m, by omega, by simp, ?_⟩, by simp only [intOf]; omega⟩
            refine Lib.hid ?_
            have hl := HL.out
            rw [rcurAt_end, HXS.out] at hl
            have e : b.size - m = k + 1 := by omega
            have e2 : b.size - (k + 1) = m := by omega
            have e3 := ropt_opt HO.out b (by omega) (k + 1) (by omega)
            simp only [ropt] at e3
            rw [ropt_opt HO.out b (by omega) k (by omega), e2] at e3
            rw [e, ← e3]
            exact ⟨hl.fst, hl.snd, HL5.out.kp.trans hl.kp (fun i h => .inl h)⟩
      · go_wp2_with fail
        go_ret2
        obtain rfl : m = 0 := by omega
        have hl := HL.out
        rw [Nat.sub_zero] at hl
        rw [show List.replicate 0 ((0, 0) : Nat × Nat) ++ opt l b b.size = opt l b b.size from rfl] at hl
        exact ⟨gt, gb, rfl, ⟨hl.fst, hl.snd, Kp.refl _ _⟩, HKw.out⟩

end Go.Proofs.Ytbhjckhhmcfpfaa

/- Lists of pairs as rows of cells; best.steps: the tokens that may be taken at a place. Nothing old is written. -/
import Derived.Test.YtbhjckhhmcfpfaaGiven
namespace Go.Proofs.Ytbhjckhhmcfpfaa
open Go.RowKit
set_option linter.unusedVariables false
set_option linter.unusedSimpArgs false

/-- Pairs as cells. -/
def pairC (x : Nat × Nat) : List Value := [.int .i64 (x.1 : Int), .int .i64 (x.2 : Int)]
def cells2 (xs : List (Nat × Nat)) : List Value := xs.flatMap pairC
theorem cells2_nil : cells2 [] = [] := rfl
theorem cells2_cons (x : Nat × Nat) (xs : List (Nat × Nat)) : cells2 (x :: xs) = .int .i64 (x.1 : Int) :: .int .i64 (x.2 : Int) :: cells2 xs := rfl
theorem cells2_append (xs ys : List (Nat × Nat)) : cells2 (xs ++ ys) = cells2 xs ++ cells2 ys := by simp [cells2]
theorem cells2_len (xs : List (Nat × Nat)) : (cells2 xs).length = xs.length * 2 := by
  induction xs with
  | nil => rfl
  | cons x xs ih => rw [cells2_cons]; simp [ih]; omega
theorem cells2_one (xs : List (Nat × Nat)) : ∀ u ∈ cells2 xs, u.oneCell' = true := by
  induction xs with
  | nil => intro u hu; simp [cells2] at hu
  | cons x xs ih =>
    intro u hu
    rw [cells2_cons] at hu
    rcases List.mem_cons.1 hu with rfl | hu
    · rfl
    · rcases List.mem_cons.1 hu with rfl | hu
      · rfl
      · exact ih u hu
theorem cells2_get (xs : List (Nat × Nat)) (i : Nat) (x : Nat × Nat) (h : xs[i]? = some x) : (cells2 xs)[i * 2]? = some (.int .i64 (x.1 : Int)) ∧ (cells2 xs)[i * 2 + 1]? = some (.int .i64 (x.2 : Int)) := by
  induction xs generalizing i with
  | nil => simp at h
  | cons y xs ih =>
    rw [cells2_cons]
    cases i with
    | zero =>
      simp at h
      subst h
      exact ⟨rfl, rfl⟩
    | succ i =>
      have := ih i (by simpa using h)
      have e : (i + 1) * 2 = i * 2 + 1 + 1 := by omega
      rw [e]
      simpa using this
theorem cells2_set (xs : List (Nat × Nat)) (i : Nat) (x : Nat × Nat) : ((cells2 xs).set (i * 2) (.int .i64 (x.1 : Int))).set (i * 2 + 1) (.int .i64 (x.2 : Int)) = cells2 (xs.set i x) := by
  induction xs generalizing i with
  | nil => simp [cells2]
  | cons y xs ih =>
    rw [cells2_cons]
    cases i with
    | zero => simp [cells2_cons]
    | succ i =>
      have e : (i + 1) * 2 = i * 2 + 1 + 1 := by omega
      rw [e]
      simp only [List.set_cons_succ, cells2_cons]
      rw [← ih i]

section
variable {P : Program} {ops : Array Oper} {rest : List Oper} {o : Oper} {a : Act} {Q : Exit → Act → World → Prop}
/-- append(v, struct of whole cells), v owned: at 'at_builtin', behind the new block. -/
theorem appS {W : World} (base : Nat) (hgd : o.guard = none) (s x : Operand) (t e : TypeId) (z : Value) (size bytes : Nat)
    (ho : o.op = .call { callee := .builtin .append, args := #[s, x], argTypes := #[t, t] })
    (ht : P.underlying t = some (.slice e)) (hinfo : (P.info? e).map (fun i => (i.zero, i.size, i.bytes)) = some (some z, size, bytes)) (hz : z.cells.size = size) (hs0 : 0 < size) (hb0 : 0 < bytes)
    (v : Value) (n : Nat) (xs : List Value) (cs : Array Value) (hs : a.eval s = v) (hx : a.eval x = .slice (some ⟨W.heap.size, 0, none⟩) 1 1) (hcs : cs.size = size) (h1 : ∀ u ∈ cs.toList, u.oneCell' = true)
    (HO : W.ownsRow base e size v n xs) (hbase : base ≤ W.heap.size) (hbytes : (n + 1) * bytes ≤ 140737488355328)
    (h : ∀ v1 w1, w1.ownsRow base e size v1 (n + 1) (xs ++ cs.toList) → W.grownBy w1 v.ownBlock → (∀ k, v1.ownBlock = some k → v.ownBlock = some k ∨ W.heap.size ≤ k) → wpList P ops Q rest (a.put o.dst v1) w1) :
    wpList P ops Q (o :: rest) a (W.alloc (.cells cs e)) := by
  refine appN base hgd s x t e z size bytes ho ht hinfo hz hs0 hb0 v n xs (some ⟨W.heap.size, 0, none⟩) 1 1 cs.toList hs hx (fun h => by cases h) (RdS.new W cs e) (by rw [Array.length_toList, hcs, Nat.one_mul]) h1 (HO.alloc _) (by simp; omega) hbytes ?_
  intro v1 w1 hown hg hf
  refine h v1 w1 hown ⟨hg.os, hg.tape, hg.output, by have := hg.size; simp at this; omega, fun k hk hn => (hg.block k (by simp; omega) hn).trans (Below.heap_alloc W _ k hk)⟩ (fun k hk => ?_)
  rcases hf k hk with h2 | h2
  · exact .inl h2
  · exact .inr (by simp at h2; omega)
/-- make([]T, n): at 'at_make'. -/
theorem makeZ {W : World} (base : Nat) (hgd : o.guard = none) (l c : Operand) (t e : TypeId) (z : Value) (size bytes : Nat) (hop : o.op = Op.makeSlice t l c)
    (ht : P.underlying t = some (.slice e)) (hinfo : (P.info? e).map (fun i => (i.zero, i.size, i.bytes)) = some (some z, size, bytes))
    (kl kc : IntKind) (L C : Int) (n : Nat) (hl : a.eval l = .int kl L) (hc : a.eval c = .int kc C) (hL : L = (n : Int)) (hC : C = (n : Int)) (b2 : bytes * n ≤ 281474976710656) (b3 : n ≤ 9223372036854775807) (hbase : base ≤ W.heap.size)
    (h : ∀ w1, w1.ownsRow base e size (.slice (some ⟨W.heap.size, 0, none⟩) n n) n (madeCells z.cells (n * size)).toList → W.grownBy w1 none → wpList P ops Q rest (a.put o.dst (.slice (some ⟨W.heap.size, 0, none⟩) n n)) w1) :
    wpList P ops Q (o :: rest) a W := by
  obtain ⟨i0, hi, hzz⟩ := Option.map_eq_some_iff.1 hinfo
  simp only [Prod.mk.injEq] at hzz
  obtain ⟨hz0, hz1, hz2⟩ := hzz
  exact wpList_make_full W hgd l c t hop base e i0 z size ht hi hz0 hz1 kl kc L C n hl hc hL hC (by rw [hz2]; exact b2) (by simp only [maxLen]; omega) hbase (fun w1 h1 h2 => h w1 h1 h2)
end
theorem madeCells_one (z : Value) (n : Nat) (h : z.cells = #[z]) : (madeCells z.cells (n * 1)).toList = List.replicate n z := by
  apply List.ext_getElem
  · simp [madeCells]
  · intro i h1 h2
    simp [madeCells, Nat.mod_one, h]
theorem madeCells_pair (n : Nat) : (madeCells (Value.agg #[.int .i64 0, .int .i64 0]).cells (n * 2)).toList = cells2 (List.replicate n (0, 0)) := by
  apply List.ext_getElem
  · rw [cells2_len]; simp [madeCells]
  · intro i h1 h2
    have hcl : (Value.agg #[.int .i64 0, .int .i64 0]).cells = #[.int .i64 0, .int .i64 0] := by simp [Value.cells, Array.flatMap]
    have hlen : i < n * 2 := by simpa [madeCells] using h1
    have hg := cells2_get (List.replicate n (0, 0)) (i / 2) (0, 0) (by rw [List.getElem?_replicate, if_pos (by omega)])
    have hv : (cells2 (List.replicate n (0, 0)))[i]? = some (.int .i64 0) := by
      rcases Nat.mod_two_eq_zero_or_one i with hm | hm
      · have : i = i / 2 * 2 := by omega
        rw [this]; exact hg.1
      · have : i = i / 2 * 2 + 1 := by omega
        rw [this]; exact hg.2
    rw [List.getElem?_eq_getElem h2] at hv
    injection hv with hv
    rw [hv]
    simp only [madeCells, Array.toList_map, List.getElem_map, hcl, List.size_toArray, List.length_cons, List.length_nil]
    rcases Nat.mod_two_eq_zero_or_one i with hm | hm <;> simp [hm]

theorem two_one (k k2 : IntKind) (x y : Int) : ∀ u ∈ (#[Value.int k x, .int k2 y] : Array Value).toList, u.oneCell' = true := by
  intro u hu
  simp at hu
  rcases hu with rfl | rfl <;> rfl
theorem info_step : (Try.prog.info? 89).map (fun i => (i.zero, i.size, i.bytes)) = some (some (.agg #[.int .i64 0, .int .i64 0]), 2, 16) := by kernel_rfl

theorem stepsP_append (b : ByteArray) (at_ : Nat) (l1 l2 : List ByteArray) (k : Nat) : stepsP b at_ k (l1 ++ l2) = stepsP b at_ k l1 ++ stepsP b at_ (k + l1.length) l2 := by
  induction l1 generalizing k with
  | nil => rfl
  | cons s r ih =>
    simp only [List.cons_append, stepsP, List.length_cons]
    rw [ih, show k + 1 + r.length = k + (r.length + 1) by omega]
    split <;> simp
theorem stepsP_snoc (b : ByteArray) (at_ : Nat) (l : List ByteArray) (k : Nat) (s : ByteArray) (hs : l[k]? = some s) :
    stepsP b at_ 0 (l.take (k + 1)) = stepsP b at_ 0 (l.take k) ++ if pfx (b.extract at_ b.size) s = true then [(256 + k, s.size)] else [] := by
  have hl : (l.take k).length = k := by
    obtain ⟨h, _⟩ := List.getElem?_eq_some_iff.1 hs
    rw [List.length_take]
    omega
  rw [List.take_add_one, hs, Option.toList_some, stepsP_append, hl, Nat.zero_add]
  simp only [stepsP]
theorem stepsP_len (b : ByteArray) (at_ : Nat) (l : List ByteArray) (k : Nat) : (stepsP b at_ k l).length ≤ l.length := by
  induction l generalizing k with
  | nil => simp [stepsP]
  | cons s r ih =>
    simp only [stepsP]
    have := ih (k + 1)
    split <;> simp only [List.length_cons] <;> omega

set_option maxRecDepth 100000 in
set_option maxHeartbeats 2000000 in
theorem steps_any (A : Option Addr) (cap0 : Nat) (l : List ByteArray) (b : ByteArray) (at_ : Nat) (w : World) (hr : RdS w A (strs l)) (hd : DictOk l) (hb : b.size ≤ 140737488351232) (hat : at_ < b.size) :
    Calls Try.prog 80 #[.slice A l.length cap0, .string b, .int .i64 at_] w fun e w' =>
      ∃ v, e = .returned v ∧ w'.ownsRow w.heap.size 89 2 v (stepsM l b at_).length (cells2 (stepsM l b at_)) ∧ Kp (fun _ => False) w w' := by
  have HR := Lib.hid hr
  have HO := Lib.hid hd
  have hfew := hd.few
  clear hr hd
  obtain ⟨X, HX⟩ : ∃ X, Hid (X = b.extract at_ b.size) := ⟨_, Lib.hid rfl⟩
  have hxs : X.size ≤ 140737488351232 := by rw [HX.out, extract_size b _ _ (Nat.le_refl _)]; omega
  go_enter Try.func80, Try.ntmps80
  go_wp2_with fail
  go_loopw [7, 12] (fun v i wr => ∃ k : Nat, k ≤ l.length ∧ i = .int .i64 k ∧ ∃ xs, Hid (xs = stepsP b at_ 0 (l.take k)) ∧ xs.length ≤ k ∧ ∃ v2, v2 = v ∧ Hid (wr.ownsRow w.heap.size 89 2 v2 xs.length (cells2 xs)) ∧ Hid (Kp (fun _ => False) w wr)) (fun _ i _ => l.length - (intOf i).toNat)
  case atStart => exact ⟨0, Nat.zero_le _, rfl, [], by show _ = _; simp [stepsP], Nat.le_refl _, _, rfl, World.ownsRow_nil _ _ _ _, Kp.refl _ _⟩
  case round =>
    obtain ⟨k, hk, rfl, xs, HY, hxl, v2, rfl, HV, HK⟩ := hrel
    obtain ⟨A1, cap1, rfl⟩ := own_slice HV.out
    by_cases hlt : k < l.length
    · obtain ⟨s, bb, o, hz, rfl, hc⟩ := HR.out.atS hlt
      have hc := HK.out.cell hc (fun h => h)
      have hss := HO.out.short s (List.mem_of_getElem? hz)
      have HS := Lib.hid (stepsP_snoc b at_ l k s hz)
      rw [← HX.out] at HS
      have hS := HS.out
      rw [← HY.out] at hS
      have HS2 := Lib.hid hS
      clear hz HS hS
      obtain ⟨r, HRr⟩ : ∃ r, Hid (r = pfx X s) := ⟨_, Lib.hid rfl⟩
      rw [← HRr.out] at HS2
      go_wp2_with fail
      rw [← HX.out]
      refine (hasPrefix_any X s wr hxs (by omega)).mono ?_
      rintro e w' ⟨rfl, m2, rfl⟩
      rw [← HRr.out]
      cases r with
      | false =>
        go_wp2_with fail
        refine ⟨⟨k + 1, by omega, by simp, xs, ?_, by omega, _, rfl, HV.out, HK.out.drewN _⟩, by simp only [intOf]; omega⟩
        show _ = _
        rw [HS2.out]
        simp
      | true =>
        have HVd : Hid ((wr.drewN m2).ownsRow w.heap.size 89 2 (.slice A1 xs.length cap1) xs.length (cells2 xs)) := HV.out
        have HKd := Lib.hid (HK.out.drewN m2)
        go_wp2_with (at_builtin; refine appS w.heap.size rfl _ _ 85 89 (.agg #[.int .i64 0, .int .i64 0]) 2 16 rfl Try.underlying85 info_step rfl (by decide) (by decide) (.slice A1 xs.length cap1) xs.length (cells2 xs) #[.int .i64 (256 + (k : Int)), .int .i64 (s.size : Int)] rfl rfl rfl (two_one _ _ _ _) HVd.out HKd.out.size (by omega) ?_; intro v3 w3 hown hgrow hfresh; have HG := Lib.hid hgrow; have HO3 := Lib.hid hown; clear hgrow hown hfresh)
        refine ⟨⟨k + 1, by omega, by simp, xs ++ [(256 + k, s.size)], ?_, by simp; omega, _, rfl, ?_, HKd.out.grown HG.out (fun i hi => .inr (own_lt HVd.out hi).1)⟩, by simp only [intOf]; omega⟩
        · show _ = _
          rw [HS2.out]
          simp
        · refine Lib.hid ?_
          have := HO3.out
          rw [cells2_append]
          simpa [cells2, pairC] using this
    · obtain rfl : k = l.length := by omega
      have hy := HY.out
      rw [List.take_length] at hy
      have HY2 := Lib.hid hy
      clear hy HY hlt
      have HB := Lib.hid (wrap_byteK b at_ hat)
      have HWB : Hid (wrap64 (b[at_].toNat : Int) = (byteAt b at_ : Int)) := wrap_byte b at_ hat
      go_wp2_with (at_builtin; refine appS w.heap.size rfl _ _ 85 89 (.agg #[.int .i64 0, .int .i64 0]) 2 16 rfl Try.underlying85 info_step rfl (by decide) (by decide) (.slice A1 xs.length cap1) xs.length (cells2 xs) #[.int .i64 (wrap64 (b[at_].toNat : Int)), .int .i64 1] rfl rfl rfl (two_one _ _ _ _) HV.out HK.out.size (by omega) ?_; intro v3 w3 hown hgrow hfresh; have HG := Lib.hid hgrow; have HO3 := Lib.hid hown; clear hgrow hown hfresh)
      go_ret
      have h3 := HO3.out
      have hst : stepsM l b at_ = xs ++ [(byteAt b at_, 1)] := by unfold stepsM; rw [HY2.out]
      rw [HWB.out] at h3
      refine ⟨v3, rfl, ?_, HK.out.grown HG.out (fun i hi => .inr (own_lt HV.out hi).1)⟩
      rw [hst, cells2_append, List.length_append]
      simpa [cells2, pairC] using h3

end Go.Proofs.Ytbhjckhhmcfpfaa

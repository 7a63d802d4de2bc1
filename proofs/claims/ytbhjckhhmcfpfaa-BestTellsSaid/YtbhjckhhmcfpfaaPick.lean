/- Of the tokens that keep the least cost both texts take the same one, in plain Lean. No program here. -/
import Derived.Test.YtbhjckhhmcfpfaaOpt
namespace Go.Proofs.Ytbhjckhhmcfpfaa
open Go.RowKit
set_option linter.unusedVariables false
set_option linter.unusedSimpArgs false

/-- The fold keeps one of the longest. -/
theorem bfold_long (rest : List (Nat × Nat)) (xs : List (Nat × Nat)) (cur : (Nat × Nat) × (Nat × Nat)) :
    let r := xs.foldl (bstep rest) cur
    (∀ x, x ∈ xs → cst rest x = r.1 → x.2 ≤ r.2.2) ∧ (cur.1 = r.1 → cur.2.2 ≤ r.2.2) := by
  induction xs generalizing cur with
  | nil => exact ⟨(fun x hx => by cases hx), fun _ => Nat.le_refl _⟩
  | cons y ys ih =>
    simp only [List.foldl_cons]
    obtain ⟨h1, h2⟩ := ih (bstep rest cur y)
    obtain ⟨g1, g2, g3⟩ := bfold rest ys (bstep rest cur y)
    generalize ys.foldl (bstep rest) (bstep rest cur y) = r at *
    refine ⟨fun x hx he => ?_, fun he => ?_⟩
    · rcases List.mem_cons.1 hx with rfl | hx
      · unfold bstep at h2 g2
        split at h2
        · exact h2 he
        · rename_i hn
          rw [if_neg hn] at g2
          have hc : cst rest x = cur.1 := by
            rcases lexLt_total (cst rest x) cur.1 with h | h | h
            · exact absurd (.inl h) hn
            · exact h
            · rw [he] at h; exact absurd h g2
          have h3 : ¬ cur.2.2 < x.2 := fun h => hn (.inr ⟨hc, h⟩)
          have := h2 (hc.symm.trans he)
          omega
      · exact h1 x hx he
    · unfold bstep at h2 g2
      split at h2
      · rename_i hc
        rw [if_pos hc] at g2
        rcases hc with hc | hc
        · rw [he] at hc
          exact absurd hc g2
        · have := h2 (hc.1.trans he)
          simp only at this
          omega
      · exact h2 he
theorem bstM_long (rest xs : List (Nat × Nat)) : ∀ x, x ∈ xs → cst rest x = (bstM rest xs).1 → x.2 ≤ (bstM rest xs).2.2 :=
  (bfold_long rest xs ((1099511627776, 1099511627776), (0, 0))).1

/-- The byte is kept only if no phrase keeps the least cost. -/
theorem bstM_byte (rest P : List (Nat × Nat)) (y : Nat × Nat) (hy : y.2 = 1) (hP : ∀ x, x ∈ P → 1 ≤ x.2) (x : Nat × Nat) (hx : x ∈ P) (he : cst rest x = (bstM rest (P ++ [y])).1) (hs : (cst rest x).1 < 1099511627776) :
    (bstM rest (P ++ [y])).2 ∈ P := by
  have e : bstM rest (P ++ [y]) = bstep rest (bstM rest P) y := by unfold bstM; rw [List.foldl_append]; rfl
  obtain ⟨h1, h2⟩ := bstM_ok rest P
  obtain ⟨_, g2⟩ := bstM_ok rest (P ++ [y])
  rw [e] at he g2 ⊢
  generalize bstM rest P = c at *
  have hb : bstep rest c y = (cst rest y, y) ∧ (lexLt (cst rest y) c.1 ∨ cst rest y = c.1 ∧ c.2.2 < y.2) ∨ bstep rest c y = c := by
    unfold bstep
    split
    · rename_i h; exact .inl ⟨rfl, h⟩
    · exact .inr rfl
  rcases h1 with h1 | ⟨z, hz, h1⟩
  · exfalso
    have h3 := h2 x hx
    rw [h1] at h3
    unfold lexLt at h3
    simp only at h3
    omega
  · rcases hb with ⟨hb, hc⟩ | hb
    · exfalso
      rw [hb] at he
      simp only at he
      have h3 := h2 x hx
      rcases hc with hc | hc
      · rw [← he] at hc; exact h3 hc
      · have := hP z hz
        rw [h1] at hc
        simp only at hc
        omega
    · rw [hb, h1]
      exact hz

/-- Does a token keep the least cost? -/
def keeps (rest : List (Nat × Nat)) (m x : Nat × Nat) : Bool := decide ((cst rest x).1 = m.1) && decide ((cst rest x).2 = m.2)
theorem keeps_iff (rest : List (Nat × Nat)) (m x : Nat × Nat) : keeps rest m x = true ↔ cst rest x = m := by
  unfold keeps
  rw [Bool.and_eq_true, decide_eq_true_eq, decide_eq_true_eq]
  constructor
  · rintro ⟨h1, h2⟩; exact Prod.ext h1 h2
  · rintro rfl; exact ⟨rfl, rfl⟩

theorem standsTo_sorted (l : List ByteArray) (b : ByteArray) (at_ n : Nat) : (standsTo l b at_ n).Pairwise (fun x y => y < x) ∧ ∀ x, x ∈ standsTo l b at_ n → 1 ≤ x ∧ x ≤ n := by
  induction n with
  | zero => simp [standsTo]
  | succ n ih =>
    simp only [standsTo]
    split
    · refine ⟨List.pairwise_cons.2 ⟨fun y hy => by have := ih.2 y hy; omega, ih.1⟩, fun x hx => ?_⟩
      rcases List.mem_cons.1 hx with rfl | hx
      · omega
      · have := ih.2 x hx; omega
    · exact ⟨ih.1, fun x hx => by have := ih.2 x hx; omega⟩

/-- What stands earlier in the reference's list is not shorter; a phrase and the byte part by their places. -/
theorem choices_order (l : List ByteArray) (b : ByteArray) (at_ : Nat) (i j : Nat) (x y : Nat × Nat) (hij : i < j) (hx : (choicesM l b at_)[i]? = some x) (hy : (choicesM l b at_)[j]? = some y) : y.2 ≤ x.2 := by
  unfold choicesM at *
  obtain ⟨hs, hp⟩ := standsTo_sorted l b at_ (min 40 (b.size - at_))
  have hl : ((stands l b at_).map (fun n => (tokenN l b at_ n.toNat, n.toNat))).length = (stands l b at_).length := List.length_map ..
  have hj := (List.getElem?_eq_some_iff.1 hy).1
  rw [List.length_append, hl] at hj
  simp only [List.length_cons, List.length_nil] at hj
  rw [List.getElem?_append_left (by omega), List.getElem?_map] at hx
  obtain ⟨n, hn, rfl⟩ := Option.map_eq_some_iff.1 hx
  have hn1 := hp n (List.mem_of_getElem? hn)
  by_cases hjl : j < (stands l b at_).length
  · rw [List.getElem?_append_left (by omega), List.getElem?_map] at hy
    obtain ⟨m, hm, rfl⟩ := Option.map_eq_some_iff.1 hy
    have hm1 := hp m (List.mem_of_getElem? hm)
    obtain ⟨hi1, hi2⟩ := List.getElem?_eq_some_iff.1 hn
    obtain ⟨hj1, hj2⟩ := List.getElem?_eq_some_iff.1 hm
    have := (List.pairwise_iff_getElem.1 hs) i j hi1 hj1 hij
    have e1 : (standsTo l b at_ (min 40 (b.size - at_)))[i] = n := hi2
    have e2 : (standsTo l b at_ (min 40 (b.size - at_)))[j] = m := hj2
    rw [e1, e2] at this
    simp only
    omega
  · rw [List.getElem?_append_right (by omega)] at hy
    have : j - ((stands l b at_).map (fun n => (tokenN l b at_ n.toNat, n.toNat))).length = 0 := by omega
    rw [this] at hy
    simp at hy
    subst hy
    simp only
    omega

/-- The same token: the first that keeps the least cost, in the reference's order. -/
theorem pick_first {l : List ByteArray} (hd : DictOk l) (b : ByteArray) (k : Nat) (hk : k < b.size) (hb : b.size ≤ 2048) (i : Nat) (x : Nat × Nat)
    (hx : (choicesM l b (b.size - (k + 1)))[i]? = some x) (hfirst : ∀ j y, j < i → (choicesM l b (b.size - (k + 1)))[j]? = some y → keeps (opt l b k) ((opt l b (k + 1)).getD 0 (0, 0)) y = false)
    (hkx : keeps (opt l b k) ((opt l b (k + 1)).getD 0 (0, 0)) x = true) : x = (bstM (opt l b k) (stepsM l b (b.size - (k + 1)))).2 := by
  have hsm := opt_small hd b hb k (by omega)
  obtain ⟨z, hz, he, hmin⟩ := best_step hd b k hk hb hsm
  have hm : (opt l b (k + 1)).getD 0 (0, 0) = cst (opt l b k) z := by simp only [opt]; rw [he]; rfl
  rw [hm] at hkx hfirst
  rw [keeps_iff] at hkx
  have hat : b.size - (k + 1) ≤ b.size := by omega
  have hxs := (mem_choices hd b _ hat x).1 (List.mem_of_getElem? hx)
  obtain ⟨x0, x1, x2, x3, _⟩ := step_mng hd b _ (by omega) x hxs
  obtain ⟨z0, z1, z2, z3, _⟩ := step_mng hd b _ (by omega) z hz
  have hzl : x.2 ≤ z.2 := by
    have := bstM_long (opt l b k) (stepsM l b (b.size - (k + 1))) x hxs (by rw [he]; exact hkx)
    rw [he] at this
    exact this
  have hzc := (mem_choices hd b _ hat z).2 hz
  obtain ⟨j, hjl, hj⟩ := List.mem_iff_getElem.1 hzc
  have hj? : (choicesM l b (b.size - (k + 1)))[j]? = some z := by rw [List.getElem?_eq_getElem hjl, hj]
  have hij : i ≤ j := by
    rcases Nat.lt_or_ge j i with h | h
    · have := hfirst j z h hj?
      have h2 := (keeps_iff (opt l b k) (cst (opt l b k) z) z).2 rfl
      rw [this] at h2
      cases h2
    · exact h
  rw [he]
  show x = z
  by_cases hie : i = j
  · subst hie
    rw [hx] at hj?
    injection hj?
  · have hlen := choices_order l b _ i j x z (by omega) hx hj?
    have hn : x.2 = z.2 := by omega
    -- of one length: two phrases are one; a phrase and the byte
    have hmx : mng l x.1 = mng l z.1 := by rw [x0, z0, hn]
    have hphr : ∀ y, y ∈ stepsP b (b.size - (k + 1)) 0 l → ∃ q, y.1 = 256 + q ∧ l[q]? = some (mng l y.1) := by
      intro y hy
      obtain ⟨q, s, hq, hp, rfl⟩ := (mem_stepsP b _ l 0 y).1 hy
      refine ⟨q, by simp, ?_⟩
      unfold mng
      simp only [Nat.zero_add]
      rw [if_neg (by omega), List.getD_eq_getElem?_getD, show 256 + q - 256 = q by omega, hq]
      rfl
    unfold stepsM at hxs hz
    rcases List.mem_append.1 hxs with hxp | hxb
    · rcases List.mem_append.1 hz with hzp | hzb
      · obtain ⟨q, hq1, hq2⟩ := hphr x hxp
        obtain ⟨r, hr1, hr2⟩ := hphr z hzp
        rw [← hmx] at hr2
        obtain ⟨hql, hqe⟩ := List.getElem?_eq_some_iff.1 hq2
        obtain ⟨hrl, hre⟩ := List.getElem?_eq_some_iff.1 hr2
        have := (List.getElem_inj (h₀ := hql) (h₁ := hrl) hd.nodup).1 (hqe.trans hre.symm)
        exact Prod.ext (by omega) hn
      · exfalso
        have hby := bstM_byte (opt l b k) (stepsP b (b.size - (k + 1)) 0 l) (byteAt b (b.size - (k + 1)), 1) rfl (fun y hy => by
          have hy2 : y ∈ stepsM l b (b.size - (k + 1)) := by unfold stepsM; exact List.mem_append_left _ hy
          exact (step_mng hd b _ (by omega) y hy2).2.1) x hxp (by
          have : stepsP b (b.size - (k + 1)) 0 l ++ [(byteAt b (b.size - (k + 1)), 1)] = stepsM l b (b.size - (k + 1)) := rfl
          rw [this, he]
          exact hkx) (by
          have := hsm _ (getD_mem_opt l b k (x.2 - 1) (by omega))
          simp only [cst]
          omega)
        have e2 : stepsP b (b.size - (k + 1)) 0 l ++ [(byteAt b (b.size - (k + 1)), 1)] = stepsM l b (b.size - (k + 1)) := rfl
        rw [e2, he] at hby
        obtain ⟨q, hq1, _⟩ := hphr z hby
        simp only [List.mem_singleton] at hzb
        have := byteAt_lt b (b.size - (k + 1))
        rw [hzb] at hq1
        simp only at hq1
        omega
    · -- the byte is the last of all
      exfalso
      simp only [List.mem_singleton] at hxb
      have hlast : i = (stands l b (b.size - (k + 1))).length := by
        have hl : ((stands l b (b.size - (k + 1))).map (fun n => (tokenN l b (b.size - (k + 1)) n.toNat, n.toNat))).length = (stands l b (b.size - (k + 1))).length := List.length_map ..
        have hil := (List.getElem?_eq_some_iff.1 hx).1
        unfold choicesM at hil hx
        rw [List.length_append, hl] at hil
        simp only [List.length_cons, List.length_nil] at hil
        rcases Nat.lt_or_ge i (stands l b (b.size - (k + 1))).length with h | h
        · exfalso
          rw [List.getElem?_append_left (by omega), List.getElem?_map] at hx
          obtain ⟨n, hn2, rfl⟩ := Option.map_eq_some_iff.1 hx
          have hm2 := List.mem_of_getElem? hn2
          unfold stands at hm2
          obtain ⟨m, m1, m2, rfl, m3⟩ := (mem_standsTo l b _ _ n).1 hm2
          obtain ⟨q, q1, q2⟩ := findI_some m3
          have ht := tokenN_at hd.nodup b (b.size - (k + 1)) m q q2
          have hb2 := byteAt_lt b (b.size - (k + 1))
          have := congrArg Prod.fst hxb
          simp only [Int.toNat_natCast] at this
          omega
        · omega
      have hl : ((stands l b (b.size - (k + 1))).map (fun n => (tokenN l b (b.size - (k + 1)) n.toNat, n.toNat))).length = (stands l b (b.size - (k + 1))).length := List.length_map ..
      unfold choicesM at hjl
      rw [List.length_append, hl] at hjl
      simp only [List.length_cons, List.length_nil] at hjl
      omega
/-- There is one. -/
theorem pick_some {l : List ByteArray} (hd : DictOk l) (b : ByteArray) (k : Nat) (hk : k < b.size) (hb : b.size ≤ 2048) :
    ∃ x, x ∈ choicesM l b (b.size - (k + 1)) ∧ keeps (opt l b k) ((opt l b (k + 1)).getD 0 (0, 0)) x = true := by
  obtain ⟨z, hz, he, hmin⟩ := best_step hd b k hk hb (opt_small hd b hb k (by omega))
  have hm : (opt l b (k + 1)).getD 0 (0, 0) = cst (opt l b k) z := by simp only [opt]; rw [he]; rfl
  exact ⟨z, (mem_choices hd b _ (by omega) z).2 hz, by rw [hm]; exact (keeps_iff _ _ _).2 rfl⟩

end Go.Proofs.Ytbhjckhhmcfpfaa

/- Least costs, in plain Lean: the tokens that may be taken at a place, the fold that keeps the best, that no tokens which mean the same cost less. No program here. -/
import Derived.Test.YtbhjckhhmcfpfaaStrs
import Derived.Test.YtbhjckhhmcfpfaaCost
namespace Go.Proofs.Ytbhjckhhmcfpfaa
open Go.RowKit
set_option linter.unusedVariables false
set_option linter.unusedSimpArgs false

/-- The bits of a token as a number. -/
def wt (t : Nat) : Nat := 8 * (num t).length
theorem wt_bd (t : Nat) : 8 ≤ wt t ∧ wt t ≤ 40 := by
  have := numB_len 4 t
  unfold wt num
  omega

/-- The phrases that stand at a place, with their numbers from k on. -/
def stepsP (b : ByteArray) (at_ : Nat) : Nat → List ByteArray → List (Nat × Nat)
  | _, [] => []
  | k, s :: r => if pfx (b.extract at_ b.size) s then (256 + k, s.size) :: stepsP b at_ (k + 1) r else stepsP b at_ (k + 1) r
/-- The tokens that may be taken at a place, and how many bytes each takes. -/
def stepsM (l : List ByteArray) (b : ByteArray) (at_ : Nat) : List (Nat × Nat) := stepsP b at_ 0 l ++ [(byteAt b at_, 1)]
/-- The reference's: the longest first, a phrase ahead of the byte. -/
def choicesM (l : List ByteArray) (b : ByteArray) (at_ : Nat) : List (Nat × Nat) := (stands l b at_).map (fun n => (tokenN l b at_ n.toNat, n.toNat)) ++ [(byteAt b at_, 1)]

/-- A dictionary that may be. -/
structure DictOk (l : List ByteArray) : Prop where
  nodup : l.Nodup
  pos : ∀ s, s ∈ l → 1 ≤ s.size
  short : ∀ s, s ∈ l → s.size ≤ 40
  few : l.length ≤ 100

theorem extract_data (b : ByteArray) (i j : Nat) : (b.extract i j).data.toList = (b.data.toList.drop i).take (j - i) := by
  simp [ByteArray.data_extract, List.extract_eq_take_drop]
theorem pfx_extract (b s : ByteArray) (at_ : Nat) (hat : at_ ≤ b.size) (h : pfx (b.extract at_ b.size) s = true) : at_ + s.size ≤ b.size ∧ s = b.extract at_ (at_ + s.size) := by
  rw [pfx_iff, ByteArray.toList_eq, ByteArray.toList_eq, List.prefix_iff_eq_take] at h
  have hl : s.data.toList.length = s.size := Array.length_toList
  have hb : b.data.toList.length = b.size := Array.length_toList
  rw [hl, extract_data] at h
  have h2 := congrArg List.length h
  rw [hl] at h2
  simp only [List.length_take, List.length_drop, hb] at h2
  refine ⟨by omega, ?_⟩
  apply ByteArray.ext
  apply Array.toList_inj.1
  rw [extract_data, h]
  rw [List.take_take]
  congr 1
  · omega
theorem extract_pfx (b : ByteArray) (at_ n : Nat) (hn : at_ + n ≤ b.size) : pfx (b.extract at_ b.size) (b.extract at_ (at_ + n)) = true := by
  rw [pfx_iff, ByteArray.toList_eq, ByteArray.toList_eq, extract_data, extract_data]
  have e : at_ + n - at_ = n := by omega
  rw [e]
  have : List.take n (List.drop at_ b.data.toList) = List.take n (List.take (b.size - at_) (List.drop at_ b.data.toList)) := by
    rw [List.take_take]; congr 1; omega
  rw [this]
  exact List.take_prefix _ _
theorem extract_size (b : ByteArray) (i j : Nat) (h : j ≤ b.size) : (b.extract i j).size = j - i := by
  simp [ByteArray.size_extract]; omega

theorem mem_stepsP (b : ByteArray) (at_ : Nat) (l : List ByteArray) (k : Nat) (x : Nat × Nat) :
    x ∈ stepsP b at_ k l ↔ ∃ i s, l[i]? = some s ∧ pfx (b.extract at_ b.size) s = true ∧ x = (256 + (k + i), s.size) := by
  induction l generalizing k with
  | nil => simp [stepsP]
  | cons s r ih =>
    simp only [stepsP]
    constructor
    · intro h
      split at h
      · rename_i hp
        rcases List.mem_cons.1 h with h | h
        · exact ⟨0, s, rfl, hp, by rw [h]; rfl⟩
        · obtain ⟨i, s', h1, h2, h3⟩ := (ih (k + 1)).1 h
          exact ⟨i + 1, s', by simpa using h1, h2, by rw [h3]; congr 1; omega⟩
      · obtain ⟨i, s', h1, h2, h3⟩ := (ih (k + 1)).1 h
        exact ⟨i + 1, s', by simpa using h1, h2, by rw [h3]; congr 1; omega⟩
    · rintro ⟨i, s', h1, h2, h3⟩
      cases i with
      | zero =>
        simp only [List.getElem?_cons_zero, Option.some.injEq] at h1
        subst h1
        rw [if_pos h2, h3]
        exact List.mem_cons_self
      | succ i =>
        have hm : x ∈ stepsP b at_ (k + 1) r := (ih (k + 1)).2 ⟨i, s', by simpa using h1, h2, by rw [h3]; congr 1; omega⟩
        split
        · exact List.mem_cons_of_mem _ hm
        · exact hm

theorem findI_of {l : List ByteArray} (hn : l.Nodup) {i : Nat} {s : ByteArray} (h : l[i]? = some s) : findI l s = i := by
  refine findI_at h ?_
  intro hm
  obtain ⟨j, hj, hs⟩ := List.mem_take_iff_getElem.1 hm
  obtain ⟨hil, his⟩ := List.getElem?_eq_some_iff.1 h
  have hjl : j < l.length := by omega
  have := (List.getElem_inj (h₀ := hjl) (h₁ := hil) hn).1 (by rw [hs, his])
  omega
theorem findI_some {l : List ByteArray} {s : ByteArray} (h : 0 ≤ findI l s) : ∃ i : Nat, findI l s = i ∧ l[i]? = some s := by
  unfold findI at *
  split at h
  · rename_i hl
    refine ⟨findN l s, by rw [if_pos hl], ?_⟩
    have h2 := List.findIdx_getElem (w := hl)
    rw [List.getElem?_eq_getElem hl]
    exact congrArg some (of_decide_eq_true h2)
  · omega

theorem mem_standsTo (l : List ByteArray) (b : ByteArray) (at_ n : Nat) (x : Int) :
    x ∈ standsTo l b at_ n ↔ ∃ m : Nat, 1 ≤ m ∧ m ≤ n ∧ x = m ∧ 0 ≤ findI l (b.extract at_ (at_ + m)) := by
  induction n with
  | zero =>
    simp only [standsTo, List.not_mem_nil, false_iff]
    rintro ⟨m, h1, h2, _⟩
    omega
  | succ n ih =>
    simp only [standsTo]
    constructor
    · intro h
      split at h
      · rename_i hf
        rcases List.mem_cons.1 h with h | h
        · exact ⟨n + 1, by omega, by omega, h, hf⟩
        · obtain ⟨m, h1, h2, h3, h4⟩ := ih.1 h
          exact ⟨m, h1, by omega, h3, h4⟩
      · obtain ⟨m, h1, h2, h3, h4⟩ := ih.1 h
        exact ⟨m, h1, by omega, h3, h4⟩
    · rintro ⟨m, h1, h2, h3, h4⟩
      by_cases hm : m = n + 1
      · subst hm
        rw [if_pos h4, h3]
        exact List.mem_cons_self
      · have := ih.2 ⟨m, h1, by omega, h3, h4⟩
        split
        · exact List.mem_cons_of_mem _ this
        · exact this

theorem tokenN_at {l : List ByteArray} (hn : l.Nodup) (b : ByteArray) (at_ n i : Nat) (h : l[i]? = some (b.extract at_ (at_ + n))) : tokenN l b at_ n = 256 + i := by
  unfold tokenN
  rw [findI_of hn h, if_pos (by omega)]
  rfl

/-- Both lists of tokens hold the same. -/
theorem mem_choices {l : List ByteArray} (hd : DictOk l) (b : ByteArray) (at_ : Nat) (hat : at_ ≤ b.size) (x : Nat × Nat) : x ∈ choicesM l b at_ ↔ x ∈ stepsM l b at_ := by
  unfold choicesM stepsM
  rw [List.mem_append, List.mem_append]
  refine or_congr_left ?_
  rw [List.mem_map, mem_stepsP]
  constructor
  · rintro ⟨y, hy, hx⟩
    unfold stands at hy
    obtain ⟨m, h1, h2, h3, h4⟩ := (mem_standsTo l b at_ _ y).1 hy
    obtain ⟨i, hi1, hi2⟩ := findI_some h4
    have hm : at_ + m ≤ b.size := by omega
    refine ⟨i, _, hi2, extract_pfx b at_ m hm, ?_⟩
    subst h3
    rw [← hx]
    simp only [Int.toNat_natCast]
    rw [tokenN_at hd.nodup b at_ m i hi2, extract_size b _ _ hm, Nat.zero_add]
    congr 1
    omega
  · rintro ⟨i, s, hi, hp, hx⟩
    obtain ⟨h1, h2⟩ := pfx_extract b s at_ hat hp
    have hm := List.mem_of_getElem? hi
    refine ⟨(s.size : Int), ?_, ?_⟩
    · unfold stands
      refine (mem_standsTo l b at_ _ _).2 ⟨s.size, hd.pos s hm, ?_, rfl, ?_⟩
      · have := hd.short s hm; omega
      · rw [← h2, findI_of hd.nodup hi]; omega
    · simp only [Int.toNat_natCast]
      rw [hx, tokenN_at hd.nodup b at_ s.size i (by rw [← h2]; exact hi), Nat.zero_add]

/-- What a token means. -/
def mng (l : List ByteArray) (t : Nat) : ByteArray := if t < 256 then ⟨#[UInt8.ofNat t]⟩ else l.getD (t - 256) ⟨#[]⟩

theorem step_mng {l : List ByteArray} (hd : DictOk l) (b : ByteArray) (at_ : Nat) (hat : at_ < b.size) (x : Nat × Nat) (hx : x ∈ stepsM l b at_) :
    mng l x.1 = b.extract at_ (at_ + x.2) ∧ 1 ≤ x.2 ∧ at_ + x.2 ≤ b.size ∧ x.1 < 256 + l.length ∧ x.2 ≤ 40 := by
  unfold stepsM at hx
  rcases List.mem_append.1 hx with h | h
  · obtain ⟨i, s, hi, hp, rfl⟩ := (mem_stepsP b at_ l 0 x).1 h
    obtain ⟨h1, h2⟩ := pfx_extract b s at_ (by omega) hp
    have hm := List.mem_of_getElem? hi
    obtain ⟨hil, his⟩ := List.getElem?_eq_some_iff.1 hi
    refine ⟨?_, hd.pos s hm, h1, by simp only; omega, hd.short s hm⟩
    unfold mng
    simp only [Nat.zero_add]
    rw [if_neg (by omega), List.getD_eq_getElem?_getD, show 256 + i - 256 = i by omega, hi]
    exact h2
  · simp only [List.mem_singleton] at h
    subst h
    refine ⟨?_, Nat.le_refl _, by simp only; omega, ?_, by simp only; omega⟩
    · have hlt := byteAt_lt b at_
      unfold mng
      simp only
      rw [if_pos hlt]
      apply ByteArray.ext
      apply Array.toList_inj.1
      rw [extract_data, show at_ + 1 - at_ = 1 by omega]
      have hl : at_ < b.data.toList.length := by rw [Array.length_toList]; exact hat
      rw [List.drop_eq_getElem_cons hl]
      simp only [List.take_succ_cons, List.take_zero]
      unfold byteAt
      rw [List.getD_eq_getElem?_getD, List.getElem?_eq_getElem hl]
      simp
    · have hlt := byteAt_lt b at_
      simp only
      omega

/-- Tokens that lead from a place to the end. -/
def Path (l : List ByteArray) (b : ByteArray) : Nat → List (Nat × Nat) → Prop
  | at_, [] => at_ = b.size
  | at_, x :: xs => at_ < b.size ∧ x ∈ stepsM l b at_ ∧ Path l b (at_ + x.2) xs

/-- Costs: tokens, bits. -/
def lexLt (c d : Nat × Nat) : Prop := c.1 < d.1 ∨ c.1 = d.1 ∧ c.2 < d.2
instance (c d : Nat × Nat) : Decidable (lexLt c d) := by unfold lexLt; exact inferInstance
theorem lexLt_total (c d : Nat × Nat) : lexLt c d ∨ c = d ∨ lexLt d c := by
  unfold lexLt
  rcases c with ⟨c1, c2⟩
  rcases d with ⟨d1, d2⟩
  simp only [Prod.mk.injEq]
  omega
theorem lexLt_trans {c d e : Nat × Nat} (h1 : lexLt c d) (h2 : lexLt d e) : lexLt c e := by
  unfold lexLt at *
  omega
theorem lexLt_irrefl (c : Nat × Nat) : ¬ lexLt c c := by unfold lexLt; omega

/-- What a step costs, with what is behind it. -/
def cst (rest : List (Nat × Nat)) (x : Nat × Nat) : Nat × Nat := (1 + (rest.getD (x.2 - 1) (0, 0)).1, wt x.1 + (rest.getD (x.2 - 1) (0, 0)).2)
/-- The program's fold. -/
def bstep (rest : List (Nat × Nat)) (cur : (Nat × Nat) × (Nat × Nat)) (x : Nat × Nat) : (Nat × Nat) × (Nat × Nat) :=
  if lexLt (cst rest x) cur.1 ∨ cst rest x = cur.1 ∧ cur.2.2 < x.2 then (cst rest x, x) else cur
def bstM (rest : List (Nat × Nat)) (xs : List (Nat × Nat)) : (Nat × Nat) × (Nat × Nat) := xs.foldl (bstep rest) ((1099511627776, 1099511627776), (0, 0))
/-- The reference's fold. -/
def rstep (rest : List (Nat × Nat)) (cur : Nat × Nat) (x : Nat × Nat) : Nat × Nat := if lexLt (cst rest x) cur then cst rest x else cur
def rstM (rest : List (Nat × Nat)) (xs : List (Nat × Nat)) : Nat × Nat := xs.foldl (rstep rest) (1099511627776, 0)

/-- What the program's fold keeps: the least, of these one of the longest, of these the first. -/
theorem bfold (rest : List (Nat × Nat)) (xs : List (Nat × Nat)) (cur : (Nat × Nat) × (Nat × Nat)) :
    let r := xs.foldl (bstep rest) cur
    (r = cur ∨ ∃ x, x ∈ xs ∧ r = (cst rest x, x)) ∧ ¬ lexLt cur.1 r.1 ∧ (∀ x, x ∈ xs → ¬ lexLt (cst rest x) r.1) := by
  induction xs generalizing cur with
  | nil => exact ⟨.inl rfl, lexLt_irrefl _, fun x hx => by cases hx⟩
  | cons y ys ih =>
    simp only [List.foldl_cons]
    obtain ⟨h1, h2, h3⟩ := ih (bstep rest cur y)
    generalize ys.foldl (bstep rest) (bstep rest cur y) = r at *
    have hb : (bstep rest cur y = (cst rest y, y) ∧ ¬ lexLt cur.1 (cst rest y)) ∨ (bstep rest cur y = cur ∧ ¬ lexLt (cst rest y) cur.1) := by
      unfold bstep
      split
      · rename_i h
        refine .inl ⟨rfl, fun h4 => ?_⟩
        rcases h with h | h
        · exact lexLt_irrefl _ (lexLt_trans h h4)
        · rw [h.1] at h4; exact lexLt_irrefl _ h4
      · rename_i h
        exact .inr ⟨rfl, fun h4 => h (.inl h4)⟩
    refine ⟨?_, ?_, ?_⟩
    · rcases h1 with h1 | ⟨x, hx, h1⟩
      · rcases hb with ⟨hb, _⟩ | ⟨hb, _⟩
        · exact .inr ⟨y, List.mem_cons_self, h1.trans hb⟩
        · exact .inl (h1.trans hb)
      · exact .inr ⟨x, List.mem_cons_of_mem _ hx, h1⟩
    · intro h4
      rcases hb with ⟨hb, hb2⟩ | ⟨hb, _⟩
      · rw [hb] at h2
        rcases lexLt_total cur.1 (cst rest y) with h5 | h5 | h5
        · exact hb2 h5
        · rw [h5] at h4; exact h2 h4
        · exact h2 (lexLt_trans h5 h4)
      · rw [hb] at h2; exact h2 h4
    · intro x hx
      rcases List.mem_cons.1 hx with rfl | hx
      · intro h4
        rcases hb with ⟨hb, _⟩ | ⟨hb, hb2⟩
        · rw [hb] at h2; exact h2 h4
        · rw [hb] at h2
          rcases lexLt_total cur.1 (cst rest x) with h5 | h5 | h5
          · exact h2 (lexLt_trans h5 h4)
          · rw [h5] at h2; exact h2 h4
          · exact hb2 h5
      · exact h3 x hx

theorem rfold (rest : List (Nat × Nat)) (xs : List (Nat × Nat)) (cur : Nat × Nat) :
    let r := xs.foldl (rstep rest) cur
    (r = cur ∨ ∃ x, x ∈ xs ∧ r = cst rest x) ∧ ¬ lexLt cur r ∧ (∀ x, x ∈ xs → ¬ lexLt (cst rest x) r) := by
  induction xs generalizing cur with
  | nil => exact ⟨.inl rfl, lexLt_irrefl _, fun x hx => by cases hx⟩
  | cons y ys ih =>
    simp only [List.foldl_cons]
    obtain ⟨h1, h2, h3⟩ := ih (rstep rest cur y)
    generalize ys.foldl (rstep rest) (rstep rest cur y) = r at *
    have hb : (rstep rest cur y = cst rest y ∧ ¬ lexLt cur (cst rest y)) ∨ (rstep rest cur y = cur ∧ ¬ lexLt (cst rest y) cur) := by
      unfold rstep
      split
      · rename_i h
        exact .inl ⟨rfl, fun h4 => lexLt_irrefl _ (lexLt_trans h h4)⟩
      · rename_i h
        exact .inr ⟨rfl, h⟩
    refine ⟨?_, ?_, ?_⟩
    · rcases h1 with h1 | ⟨x, hx, h1⟩
      · rcases hb with ⟨hb, _⟩ | ⟨hb, _⟩
        · exact .inr ⟨y, List.mem_cons_self, h1.trans hb⟩
        · exact .inl (h1.trans hb)
      · exact .inr ⟨x, List.mem_cons_of_mem _ hx, h1⟩
    · intro h4
      rcases hb with ⟨hb, hb2⟩ | ⟨hb, _⟩
      · rw [hb] at h2
        rcases lexLt_total cur (cst rest y) with h5 | h5 | h5
        · exact hb2 h5
        · rw [h5] at h4; exact h2 h4
        · exact h2 (lexLt_trans h5 h4)
      · rw [hb] at h2; exact h2 h4
    · intro x hx
      rcases List.mem_cons.1 hx with rfl | hx
      · intro h4
        rcases hb with ⟨hb, _⟩ | ⟨hb, hb2⟩
        · rw [hb] at h2; exact h2 h4
        · rw [hb] at h2
          rcases lexLt_total cur (cst rest x) with h5 | h5 | h5
          · exact h2 (lexLt_trans h5 h4)
          · rw [h5] at h2; exact h2 h4
          · exact hb2 h5
      · exact h3 x hx

theorem bstM_ok (rest : List (Nat × Nat)) (xs : List (Nat × Nat)) :
    (bstM rest xs = ((1099511627776, 1099511627776), (0, 0)) ∨ ∃ x, x ∈ xs ∧ bstM rest xs = (cst rest x, x)) ∧ (∀ x, x ∈ xs → ¬ lexLt (cst rest x) (bstM rest xs).1) :=
  have h := bfold rest xs ((1099511627776, 1099511627776), (0, 0))
  ⟨h.1, h.2.2⟩
theorem rstM_ok (rest : List (Nat × Nat)) (xs : List (Nat × Nat)) :
    (rstM rest xs = (1099511627776, 0) ∨ ∃ x, x ∈ xs ∧ rstM rest xs = cst rest x) ∧ (∀ x, x ∈ xs → ¬ lexLt (cst rest x) (rstM rest xs)) :=
  have h := rfold rest xs (1099511627776, 0)
  ⟨h.1, h.2.2⟩

/-- The least costs of the last k + 1 places, and the tokens that keep them. -/
def opt (l : List ByteArray) (b : ByteArray) : Nat → List (Nat × Nat)
  | 0 => [(0, 0)]
  | k + 1 => (bstM (opt l b k) (stepsM l b (b.size - (k + 1)))).1 :: opt l b k
def firsts (l : List ByteArray) (b : ByteArray) : Nat → List (Nat × Nat)
  | 0 => []
  | k + 1 => (bstM (opt l b k) (stepsM l b (b.size - (k + 1)))).2 :: firsts l b k
def ropt (l : List ByteArray) (b : ByteArray) : Nat → List (Nat × Nat)
  | 0 => [(0, 0)]
  | k + 1 => rstM (ropt l b k) (choicesM l b (b.size - (k + 1))) :: ropt l b k

theorem opt_len (l : List ByteArray) (b : ByteArray) (k : Nat) : (opt l b k).length = k + 1 := by
  induction k with
  | zero => rfl
  | succ k ih => simp [opt, ih]
theorem firsts_len (l : List ByteArray) (b : ByteArray) (k : Nat) : (firsts l b k).length = k := by
  induction k with
  | zero => rfl
  | succ k ih => simp [firsts, ih]

/-- What is known of the best step at a place. -/
theorem best_step {l : List ByteArray} (hd : DictOk l) (b : ByteArray) (k : Nat) (hk : k < b.size) (hb : b.size ≤ 2048)
    (hsm : ∀ c, c ∈ opt l b k → c.1 ≤ k ∧ c.2 ≤ 40 * k) :
    ∃ x, x ∈ stepsM l b (b.size - (k + 1)) ∧ bstM (opt l b k) (stepsM l b (b.size - (k + 1))) = (cst (opt l b k) x, x) ∧
      ∀ y, y ∈ stepsM l b (b.size - (k + 1)) → ¬ lexLt (cst (opt l b k) y) (cst (opt l b k) x) := by
  obtain ⟨h1, h3⟩ := bstM_ok (opt l b k) (stepsM l b (b.size - (k + 1)))
  have hbyte : (byteAt b (b.size - (k + 1)), 1) ∈ stepsM l b (b.size - (k + 1)) := by unfold stepsM; simp
  rcases h1 with h1 | ⟨x, hx, h1⟩
  · exfalso
    have h4 := h3 _ hbyte
    rw [h1] at h4
    apply h4
    unfold lexLt cst
    simp only [Nat.sub_self]
    have hl := opt_len l b k
    have hm : (opt l b k).getD 0 (0, 0) ∈ opt l b k := by
      rw [List.getD_eq_getElem?_getD, List.getElem?_eq_getElem (show 0 < (opt l b k).length by omega)]
      exact List.getElem_mem _
    have := hsm _ hm
    omega
  · refine ⟨x, hx, h1, ?_⟩
    rw [h1] at h3
    exact h3

theorem getD_mem_opt (l : List ByteArray) (b : ByteArray) (k j : Nat) (hj : j ≤ k) : (opt l b k).getD j (0, 0) ∈ opt l b k := by
  have hl := opt_len l b k
  rw [List.getD_eq_getElem?_getD, List.getElem?_eq_getElem (show j < (opt l b k).length by omega)]
  exact List.getElem_mem _

theorem opt_small {l : List ByteArray} (hd : DictOk l) (b : ByteArray) (hb : b.size ≤ 2048) (k : Nat) (hk : k ≤ b.size) :
    ∀ c, c ∈ opt l b k → c.1 ≤ k ∧ c.2 ≤ 40 * k := by
  induction k with
  | zero => intro c hc; simp [opt] at hc; subst hc; simp
  | succ k ih =>
    have ih := ih (by omega)
    obtain ⟨x, hx, he, hmin⟩ := best_step hd b k (by omega) hb ih
    intro c hc
    simp only [opt] at hc
    rcases List.mem_cons.1 hc with hc | hc
    · rw [hc, he]
      obtain ⟨_, s1, s2, _⟩ := step_mng hd b _ (by omega) x hx
      have := ih _ (getD_mem_opt l b k (x.2 - 1) (by omega))
      have hw := wt_bd x.1
      simp only [cst]
      omega
    · have := ih c hc
      omega

theorem opt_getD (l : List ByteArray) (b : ByteArray) (n j : Nat) (h : j ≤ n) : (opt l b n).getD j (0, 0) = (opt l b (n - j)).getD 0 (0, 0) := by
  induction j generalizing n with
  | zero => rfl
  | succ j ih =>
    obtain ⟨n, rfl⟩ : ∃ m, n = m + 1 := ⟨n - 1, by omega⟩
    have : (opt l b (n + 1)).getD (j + 1) (0, 0) = (opt l b n).getD j (0, 0) := by simp [opt]
    rw [this, ih n (by omega)]
    congr 2
    omega

/-- What a path costs. -/
def pathCost (xs : List (Nat × Nat)) : Nat × Nat := (xs.length, (xs.map fun x => wt x.1).sum)

/-- No path costs less than the least. -/
theorem opt_least {l : List ByteArray} (hd : DictOk l) (b : ByteArray) (hb : b.size ≤ 2048) (xs : List (Nat × Nat)) :
    ∀ at_, at_ ≤ b.size → Path l b at_ xs → ¬ lexLt (pathCost xs) ((opt l b (b.size - at_)).getD 0 (0, 0)) := by
  induction xs with
  | nil =>
    intro at_ _ hp
    simp only [Path] at hp
    subst hp
    rw [Nat.sub_self]
    exact lexLt_irrefl _
  | cons x xs ih =>
    intro at_ hat hp
    obtain ⟨h1, h2, h3⟩ := hp
    obtain ⟨_, s1, s2, _⟩ := step_mng hd b at_ h1 x h2
    have ih := ih (at_ + x.2) s2 h3
    obtain ⟨k, hk⟩ : ∃ k, b.size - at_ = k + 1 := ⟨b.size - at_ - 1, by omega⟩
    obtain ⟨z, hz, he, hmin⟩ := best_step hd b k (by omega) hb (opt_small hd b hb k (by omega))
    have hpl : b.size - (k + 1) = at_ := by omega
    have h4 := hmin x (by rw [hpl]; exact h2)
    have h5 : (opt l b (b.size - at_)).getD 0 (0, 0) = cst (opt l b k) z := by rw [hk]; simp only [opt]; rw [he]; rfl
    rw [h5]
    have h6 : (opt l b k).getD (x.2 - 1) (0, 0) = (opt l b (b.size - (at_ + x.2))).getD 0 (0, 0) := by
      rw [opt_getD l b k (x.2 - 1) (by omega)]
      congr 2
      omega
    rw [← h6] at ih
    intro h7
    have h8 : ¬ lexLt (pathCost (x :: xs)) (cst (opt l b k) x) := by
      unfold lexLt pathCost cst at *
      simp only [List.length_cons, List.map_cons, List.sum_cons] at *
      omega
    rcases lexLt_total (cst (opt l b k) x) (cst (opt l b k) z) with h9 | h9 | h9
    · exact h4 h9
    · rw [← h9] at h7; exact h8 h7
    · exact h8 (lexLt_trans h7 h9)

/-- The path of the kept tokens. -/
def pathF : Nat → List (Nat × Nat) → List (Nat × Nat)
  | 0, _ => []
  | _ + 1, [] => []
  | f + 1, x :: r => x :: pathF f ((x :: r).drop x.2)
def pathM (l : List ByteArray) (b : ByteArray) : List (Nat × Nat) := pathF b.size (firsts l b b.size)
def parseM (l : List ByteArray) (b : ByteArray) : List Nat := (pathM l b).map (·.1)

theorem firsts_drop (l : List ByteArray) (b : ByteArray) (n j : Nat) : (firsts l b n).drop j = firsts l b (n - j) := by
  induction j generalizing n with
  | zero => rfl
  | succ j ih =>
    cases n with
    | zero => simp [firsts]
    | succ n =>
      simp only [firsts, List.drop_succ_cons]
      rw [ih n]
      congr 1
      omega

theorem pathF_ok {l : List ByteArray} (hd : DictOk l) (b : ByteArray) (hb : b.size ≤ 2048) (f : Nat) :
    ∀ k, k ≤ b.size → k ≤ f → Path l b (b.size - k) (pathF f (firsts l b k)) ∧ pathCost (pathF f (firsts l b k)) = (opt l b k).getD 0 (0, 0) := by
  induction f with
  | zero =>
    intro k hk hkf
    obtain rfl : k = 0 := by omega
    exact ⟨by simp [pathF, Path], rfl⟩
  | succ f ih =>
    intro k hk hkf
    cases k with
    | zero => exact ⟨by simp [firsts, pathF, Path], rfl⟩
    | succ k =>
      obtain ⟨z, hz, he, hmin⟩ := best_step hd b k (by omega) hb (opt_small hd b hb k (by omega))
      obtain ⟨_, s1, s2, _⟩ := step_mng hd b _ (by omega) z hz
      have hf : firsts l b (k + 1) = z :: firsts l b k := by simp only [firsts]; rw [he]
      have hd2 : (z :: firsts l b k).drop z.2 = firsts l b (k + 1 - z.2) := by rw [← hf, firsts_drop]
      obtain ⟨i1, i2⟩ := ih (k + 1 - z.2) (by omega) (by omega)
      rw [hf]
      simp only [pathF]
      rw [hd2]
      refine ⟨⟨by omega, hz, ?_⟩, ?_⟩
      · have : b.size - (k + 1) + z.2 = b.size - (k + 1 - z.2) := by omega
        rw [this]
        exact i1
      · have h5 : (opt l b (k + 1)).getD 0 (0, 0) = cst (opt l b k) z := by simp only [opt]; rw [he]; rfl
        rw [h5]
        unfold cst
        rw [opt_getD l b k (z.2 - 1) (by omega), show k - (z.2 - 1) = k + 1 - z.2 by omega, ← i2]
        unfold pathCost
        simp only [List.length_cons, List.map_cons, List.sum_cons]
        rw [Nat.add_comm]
theorem pathM_ok {l : List ByteArray} (hd : DictOk l) (b : ByteArray) (hb : b.size ≤ 2048) :
    Path l b 0 (pathM l b) ∧ pathCost (pathM l b) = (opt l b b.size).getD 0 (0, 0) := by
  have h := pathF_ok hd b hb b.size b.size (Nat.le_refl _) (Nat.le_refl _)
  rw [Nat.sub_self] at h
  exact h

/-- The reference's least costs are these. -/
theorem ropt_opt {l : List ByteArray} (hd : DictOk l) (b : ByteArray) (hb : b.size ≤ 2048) (k : Nat) (hk : k ≤ b.size) : ropt l b k = opt l b k := by
  induction k with
  | zero => rfl
  | succ k ih =>
    have ih := ih (by omega)
    have hsm := opt_small hd b hb k (by omega)
    obtain ⟨z, hz, he, hmin⟩ := best_step hd b k (by omega) hb hsm
    obtain ⟨_, s1, s2, _⟩ := step_mng hd b _ (by omega) z hz
    simp only [ropt, opt]
    rw [ih, he]
    congr 1
    obtain ⟨h1, h3⟩ := rstM_ok (opt l b k) (choicesM l b (b.size - (k + 1)))
    have hzc := (mem_choices hd b _ (by omega) z).2 hz
    have h4 := h3 z hzc
    have hzs := hsm _ (getD_mem_opt l b k (z.2 - 1) (by omega))
    rcases h1 with h1 | ⟨x, hx, h1⟩
    · exfalso
      rw [h1] at h4
      apply h4
      unfold lexLt cst
      omega
    · rw [h1] at h4 ⊢
      have h5 := hmin x ((mem_choices hd b _ (by omega) x).1 hx)
      rcases lexLt_total (cst (opt l b k) x) (cst (opt l b k) z) with h6 | h6 | h6
      · exact absurd h6 h5
      · exact h6
      · exact absurd h6 h4

/-- What a path means: the bytes behind its place. -/
def cat (l : List ByteArray) (ts : List Nat) : List UInt8 := (ts.map fun t => (mng l t).data.toList).flatten
theorem path_cat {l : List ByteArray} (hd : DictOk l) (b : ByteArray) (xs : List (Nat × Nat)) :
    ∀ at_, at_ ≤ b.size → Path l b at_ xs → cat l (xs.map (·.1)) = b.data.toList.drop at_ := by
  induction xs with
  | nil =>
    intro at_ _ hp
    simp only [Path] at hp
    subst hp
    have hl : b.data.toList.length = b.size := Array.length_toList
    rw [← hl, List.drop_length]
    rfl
  | cons x xs ih =>
    intro at_ hat hp
    obtain ⟨h1, h2, h3⟩ := hp
    obtain ⟨s0, s1, s2, _⟩ := step_mng hd b at_ h1 x h2
    have ih := ih (at_ + x.2) s2 h3
    unfold cat at *
    simp only [List.map_cons, List.flatten_cons]
    rw [ih, s0, extract_data, show at_ + x.2 - at_ = x.2 by omega, ← List.drop_drop]
    exact List.take_append_drop _ _
theorem path_tok {l : List ByteArray} (hd : DictOk l) (b : ByteArray) (xs : List (Nat × Nat)) :
    ∀ at_, at_ ≤ b.size → Path l b at_ xs → ∀ t, t ∈ xs.map (·.1) → t < 256 + l.length := by
  induction xs with
  | nil => intro at_ _ _ t ht; simp at ht
  | cons x xs ih =>
    intro at_ hat hp t ht
    obtain ⟨h1, h2, h3⟩ := hp
    obtain ⟨s0, s1, s2, s3, _⟩ := step_mng hd b at_ h1 x h2
    simp only [List.map_cons] at ht
    rcases List.mem_cons.1 ht with rfl | ht
    · exact s3
    · exact ih (at_ + x.2) s2 h3 t ht
theorem path_len {l : List ByteArray} (hd : DictOk l) (b : ByteArray) (xs : List (Nat × Nat)) : ∀ at_, at_ ≤ b.size → Path l b at_ xs → xs.length ≤ b.size - at_ := by
  induction xs with
  | nil => intro at_ _ _; simp
  | cons x xs ih =>
    intro at_ hat hp
    obtain ⟨h1, h2, h3⟩ := hp
    obtain ⟨s0, s1, s2, s3, _⟩ := step_mng hd b at_ h1 x h2
    have := ih (at_ + x.2) s2 h3
    simp only [List.length_cons]
    omega

end Go.Proofs.Ytbhjckhhmcfpfaa

/- Greedy and flex, in plain Lean: which token each takes at a place; each takes one that may be taken, so that what each answers is a path. No program here. -/
import Derived.Test.YtbhjckhhmcfpfaaOpt
namespace Go.Proofs.Ytbhjckhhmcfpfaa
open Go.RowKit
set_option linter.unusedVariables false
set_option linter.unusedSimpArgs false

/-- The longest phrase that stands at a place: its number, its length. -/
def longP (b : ByteArray) (at_ : Nat) : Nat → List ByteArray → Int × Nat → Int × Nat
  | _, [], st => st
  | k, s :: r, st => longP b at_ (k + 1) r (if st.2 < s.size ∧ pfx (b.extract at_ b.size) s = true then ((k : Int), s.size) else st)
def gnext (l : List ByteArray) (b : ByteArray) (at_ : Nat) : Nat × Nat :=
  let r := longP b at_ 0 l (-1, 0)
  if r.1 < 0 then (byteAt b at_, 1) else (256 + r.1.toNat, r.2)
/-- What the fold holds: nothing, or a phrase that stands there. -/
theorem longP_in (b : ByteArray) (at_ : Nat) (l : List ByteArray) (k : Nat) (st : Int × Nat) (P : Int × Nat → Prop) (h0 : P st)
    (h : ∀ i s, l[i]? = some s → pfx (b.extract at_ b.size) s = true → P (((k + i : Nat) : Int), s.size)) : P (longP b at_ k l st) := by
  induction l generalizing k st with
  | nil => exact h0
  | cons s r ih =>
    simp only [longP]
    refine ih (k + 1) _ ?_ (fun i s' hi hp => ?_)
    · split
      · rename_i hc
        exact h 0 s rfl hc.2
      · exact h0
    · have := h (i + 1) s' (by simpa using hi) hp
      rwa [show k + (i + 1) = k + 1 + i by omega] at this
theorem gnext_step (l : List ByteArray) (b : ByteArray) (at_ : Nat) : gnext l b at_ ∈ stepsM l b at_ := by
  have h := longP_in b at_ l 0 (-1, 0) (fun r => r.1 < 0 ∨ (256 + r.1.toNat, r.2) ∈ stepsM l b at_ ∧ 0 ≤ r.1) (.inl (by decide)) (fun i s hi hp => .inr ⟨by
    unfold stepsM
    exact List.mem_append_left _ ((mem_stepsP b at_ l 0 _).2 ⟨i, s, hi, hp, rfl⟩), by simp only; omega⟩)
  unfold gnext
  simp only
  split
  · unfold stepsM; simp
  · rename_i hn
    rcases h with h | h
    · exact absurd h hn
    · exact h.1

/-- How far one comes. -/
def moreM (l : List ByteArray) (b : ByteArray) (at_ : Nat) : Nat := if at_ < b.size then (gnext l b at_).2 else 0
def reachM (l : List ByteArray) (b : ByteArray) (at_ n : Nat) : Nat := at_ + n + moreM l b (at_ + n)
/-- A choice: token, bytes, reach; does it go ahead of another? -/
def betterB (c d : Nat × Nat × Nat) : Bool := if c.2.2 ≠ d.2.2 then decide (d.2.2 < c.2.2) else decide (d.2.1 < c.2.1)
def flexP (l : List ByteArray) (b : ByteArray) (at_ : Nat) : Nat → List ByteArray → (Nat × Nat × Nat) × Bool → (Nat × Nat × Nat) × Bool
  | _, [], st => st
  | k, s :: r, st => flexP l b at_ (k + 1) r (if pfx (b.extract at_ b.size) s = true then
      (if betterB (256 + k, s.size, reachM l b at_ s.size) st.1 = true then (256 + k, s.size, reachM l b at_ s.size) else st.1, st.2 || decide (s.size = 1)) else st)
def fnext (l : List ByteArray) (b : ByteArray) (at_ : Nat) : Nat × Nat :=
  let r := flexP l b at_ 0 l ((0, 0, 0), false)
  let c := (byteAt b at_, 1, reachM l b at_ 1)
  if r.2 = false ∧ betterB c r.1 = true then (byteAt b at_, 1) else (r.1.1, r.1.2.1)
theorem flexP_in (l0 : List ByteArray) (b : ByteArray) (at_ : Nat) (l : List ByteArray) (k : Nat) (st : (Nat × Nat × Nat) × Bool) (P : (Nat × Nat × Nat) × Bool → Prop) (h0 : P st)
    (h : ∀ i s st, l[i]? = some s → pfx (b.extract at_ b.size) s = true → P st →
      P (if betterB (256 + (k + i), s.size, reachM l0 b at_ s.size) st.1 = true then (256 + (k + i), s.size, reachM l0 b at_ s.size) else st.1, st.2 || decide (s.size = 1))) : P (flexP l0 b at_ k l st) := by
  induction l generalizing k st with
  | nil => exact h0
  | cons s r ih =>
    simp only [flexP]
    refine ih (k + 1) _ ?_ (fun i s' st hi hp hP => ?_)
    · split
      · rename_i hc
        exact h 0 s st rfl hc h0
      · exact h0
    · have := h (i + 1) s' st (by simpa using hi) hp hP
      rwa [show k + (i + 1) = k + 1 + i by omega] at this
theorem fnext_step {l : List ByteArray} (hd : DictOk l) (b : ByteArray) (at_ : Nat) : fnext l b at_ ∈ stepsM l b at_ := by
  have h := flexP_in l b at_ l 0 ((0, 0, 0), false) (fun r => (r.1 = (0, 0, 0) ∧ r.2 = false) ∨ (r.1.1, r.1.2.1) ∈ stepsM l b at_) (.inl ⟨rfl, rfl⟩) (fun i s st hi hp hP => by
    have hm : (256 + (0 + i), s.size) ∈ stepsM l b at_ := by
      unfold stepsM
      exact List.mem_append_left _ ((mem_stepsP b at_ l 0 _).2 ⟨i, s, hi, hp, rfl⟩)
    simp only
    split
    · exact .inr hm
    · rename_i hb
      rcases hP with ⟨hP, _⟩ | hP
      · exfalso
        apply hb
        have h1 := hd.pos s (List.mem_of_getElem? hi)
        unfold betterB reachM
        rw [hP]
        simp only
        rw [if_pos (by omega)]
        exact decide_eq_true (by omega)
      · exact .inr hP)
  unfold fnext
  simp only
  split
  · unfold stepsM; simp
  · rename_i hn
    rcases h with ⟨h1, h2⟩ | h
    · exfalso
      apply hn
      refine ⟨h2, ?_⟩
      unfold betterB reachM
      rw [h1]
      simp only
      rw [if_pos (by omega)]
      exact decide_eq_true (by omega)
    · exact h

/-- The path that a choice at each place makes. -/
def walkP (nxt : Nat → Nat × Nat) (size : Nat) : Nat → Nat → List (Nat × Nat)
  | 0, _ => []
  | f + 1, at_ => if at_ < size then nxt at_ :: walkP nxt size f (at_ + (nxt at_).2) else []
theorem walkP_ok {l : List ByteArray} (hd : DictOk l) (b : ByteArray) (nxt : Nat → Nat × Nat) (h : ∀ at_, at_ < b.size → nxt at_ ∈ stepsM l b at_) (f : Nat) :
    ∀ at_, at_ ≤ b.size → b.size - at_ ≤ f → Path l b at_ (walkP nxt b.size f at_) := by
  induction f with
  | zero =>
    intro at_ h1 h2
    simp only [walkP, Path]
    omega
  | succ f ih =>
    intro at_ h1 h2
    simp only [walkP]
    split
    · rename_i hlt
      obtain ⟨_, s1, s2, _⟩ := step_mng hd b at_ hlt _ (h at_ hlt)
      exact ⟨hlt, h at_ hlt, ih _ s2 (by omega)⟩
    · simp only [Path]
      omega
/-- One step of it. -/
theorem walkP_step (nxt : Nat → Nat × Nat) (size f at_ : Nat) (h : at_ < size) : walkP nxt size (f + 1) at_ = nxt at_ :: walkP nxt size f (at_ + (nxt at_).2) := by
  simp only [walkP]
  rw [if_pos h]
theorem walkP_end (nxt : Nat → Nat × Nat) (size f at_ : Nat) (h : ¬ at_ < size) : walkP nxt size f at_ = [] := by
  cases f with
  | zero => rfl
  | succ f => simp only [walkP]; rw [if_neg h]

end Go.Proofs.Ytbhjckhhmcfpfaa

/- The book when two lists of numbers and two of costs are kept: Apart; and what best's tokens of all windows mean. -/
import Derived.Test.YtbhjckhhmcfpfaaApart
import Derived.Test.YtbhjckhhmcfpfaaBLeast
namespace Go.Proofs.Ytbhjckhhmcfpfaa
open Go.RowKit
set_option linter.unusedVariables false
set_option linter.unusedSimpArgs false

theorem own_off {w w1 : World} {base n : Nat} {e : TypeId} {v : Value} {xs : List Value} {S : Nat → Prop} (h : w.ownsRow base e 1 v n xs) (k : Kp S w w1) (hS : ∀ b cur, w.heap[b]? = some (.cells cur e (0, 0)) → ¬ S b) : w1.ownsRow base e 1 v n xs := by
  refine k.own h (fun b hb hs => ?_)
  obtain ⟨cur, hh⟩ := own_blk h hb
  exact hS b cur hh hs
theorem BkInts.off {w : World} {base gB : Nat} {cs : Array Value} {I W : Value} {rs ws : List Value} (h : BkInts w base gB cs I W rs ws) {b : Nat} {cur : Array Value} {t : TypeId} (hb : w.heap[b]? = some (.cells cur t (0, 0))) (h1 : t ≠ 59) (h2 : t ≠ 30) : ¬ (b = gB ∨ I.ownBlock = some b ∨ W.ownBlock = some b) := by
  rintro (rfl | hk | hk)
  · exact blk_ne hb h.book h1 rfl
  · obtain ⟨cur2, hh⟩ := own_blk h.rI hk
    exact blk_ne hb hh h2 rfl
  · obtain ⟨cur2, hh⟩ := own_blk h.rW hk
    exact blk_ne hb hh h2 rfl
theorem BkCosts.off {w : World} {base gB : Nat} {cs : Array Value} {I W : Value} {rs ws : List Value} (h : BkCosts w base gB cs I W rs ws) {b : Nat} {cur : Array Value} {t : TypeId} (hb : w.heap[b]? = some (.cells cur t (0, 0))) (h1 : t ≠ 59) (h2 : t ≠ 50) : ¬ (b = gB ∨ I.ownBlock = some b ∨ W.ownBlock = some b) := by
  rintro (rfl | hk | hk)
  · exact blk_ne hb h.book h1 rfl
  · obtain ⟨cur2, hh⟩ := own_blk h.rI hk
    exact blk_ne hb hh h2 rfl
  · obtain ⟨cur2, hh⟩ := own_blk h.rW hk
    exact blk_ne hb hh h2 rfl
theorem BkInts.fresh {w : World} {base gB : Nat} {cs : Array Value} {I W : Value} {rs ws : List Value} (h : BkInts w base gB cs I W rs ws) (hb : base ≤ gB) {b : Nat} (hk : b = gB ∨ I.ownBlock = some b ∨ W.ownBlock = some b) : base ≤ b := by
  rcases hk with rfl | hk | hk
  · exact hb
  · exact (own_lt h.rI hk).1
  · exact (own_lt h.rW hk).1
theorem BkCosts.fresh {w : World} {base gB : Nat} {cs : Array Value} {I W : Value} {rs ws : List Value} (h : BkCosts w base gB cs I W rs ws) (hb : base ≤ gB) {b : Nat} (hk : b = gB ∨ I.ownBlock = some b ∨ W.ownBlock = some b) : base ≤ b := by
  rcases hk with rfl | hk | hk
  · exact hb
  · exact (own_lt h.rI hk).1
  · exact (own_lt h.rW hk).1
theorem BkInts.kp {w w1 : World} {base gB : Nat} {cs : Array Value} {I W : Value} {rs ws : List Value} (h : BkInts w base gB cs I W rs ws) (k : Kp (fun _ => False) w w1) : BkInts w1 base gB cs I W rs ws :=
  ⟨k.blk h.book (fun h => h), h.hI, h.hW, k.own h.rI (fun _ _ h => h), k.own h.rW (fun _ _ h => h), h.apart⟩
theorem BkCosts.kp {w w1 : World} {base gB : Nat} {cs : Array Value} {I W : Value} {rs ws : List Value} (h : BkCosts w base gB cs I W rs ws) (k : Kp (fun _ => False) w w1) : BkCosts w1 base gB cs I W rs ws :=
  ⟨k.blk h.book (fun h => h), h.hI, h.hW, k.own h.rI (fun _ _ h => h), k.own h.rW (fun _ _ h => h), h.apart⟩

theorem two_at {α : Type} {v1 v2 v : α} {i : Nat} (h : [v1, v2][i]? = some v) : (i = 0 ∧ v = v1) ∨ (i = 1 ∧ v = v2) := by
  match i, h with
  | 0, h => exact .inl ⟨rfl, by simpa using h.symm⟩
  | 1, h => exact .inr ⟨rfl, by simpa using h.symm⟩
  | i + 2, h => simp at h
theorem apartV_two {v1 v2 : Value} (h : ∀ k, v1.ownBlock = some k → v2.ownBlock ≠ some k) : ApartV [v1, v2] := by
  intro i j v u hij hv hu k hk hk2
  rcases two_at hv with ⟨rfl, rfl⟩ | ⟨rfl, rfl⟩ <;> rcases two_at hu with ⟨rfl, rfl⟩ | ⟨rfl, rfl⟩
  · exact hij rfl
  · exact h k hk hk2
  · exact h k hk2 hk
  · exact hij rfl
theorem ownFInts_two {w : World} {base : Nat} {v1 v2 : Value} {X : List Value} (h1 : w.ownsRow base 3 1 v1 X.length X) (h2 : w.ownsRow base 3 1 v2 X.length X) : OwnFInts w base [v1, v2] (fun _ => X) := by
  intro i v hv
  rcases two_at hv with ⟨rfl, rfl⟩ | ⟨rfl, rfl⟩
  · exact h1
  · exact h2
theorem ownFCosts_two {w : World} {base : Nat} {v1 v2 : Value} {X : List Value} (h1 : w.ownsRow base 64 1 v1 X.length X) (h2 : w.ownsRow base 64 1 v2 X.length X) : OwnFCosts w base [v1, v2] (fun _ => X) := by
  intro i v hv
  rcases two_at hv with ⟨rfl, rfl⟩ | ⟨rfl, rfl⟩
  · exact h1
  · exact h2
theorem alikeInts_two {w : World} {base : Nat} {v1 v2 q1 q2 : Value} {X : List Value} (h1 : w.ownsRow base 3 1 v1 X.length X) (h2 : w.ownsRow base 3 1 v2 X.length X) (h3 : w.ownsRow base 3 1 q1 X.length X) (h4 : w.ownsRow base 3 1 q2 X.length X)
    (hl : X.length ≤ 800) (hg : ∀ x, x ∈ X → GoodInts x) : AlikeInts w [v1, v2] [q1, q2] := by
  intro i hi
  obtain ⟨A1, c1, rfl⟩ := own_slice h1
  obtain ⟨A2, c2, rfl⟩ := own_slice h2
  obtain ⟨A3, c3, rfl⟩ := own_slice h3
  obtain ⟨A4, c4, rfl⟩ := own_slice h4
  match i, hi with
  | 0, _ => exact ⟨X, A1, c1, A3, c3, rfl, rfl, RdS.ownS h1, RdS.ownS h3, by omega, hg⟩
  | 1, _ => exact ⟨X, A2, c2, A4, c4, rfl, rfl, RdS.ownS h2, RdS.ownS h4, by omega, hg⟩
theorem alikeCosts_two {w : World} {base : Nat} {v1 v2 q1 q2 : Value} {X : List Value} (h1 : w.ownsRow base 64 1 v1 X.length X) (h2 : w.ownsRow base 64 1 v2 X.length X) (h3 : w.ownsRow base 64 1 q1 X.length X) (h4 : w.ownsRow base 64 1 q2 X.length X)
    (hl : X.length ≤ 800) (hg : ∀ x, x ∈ X → GoodCosts x) : AlikeCosts w [v1, v2] [q1, q2] := by
  intro i hi
  obtain ⟨A1, c1, rfl⟩ := own_slice h1
  obtain ⟨A2, c2, rfl⟩ := own_slice h2
  obtain ⟨A3, c3, rfl⟩ := own_slice h3
  obtain ⟨A4, c4, rfl⟩ := own_slice h4
  match i, hi with
  | 0, _ => exact ⟨X, A1, c1, A3, c3, rfl, rfl, RdS.ownS h1, RdS.ownS h3, by omega, hg⟩
  | 1, _ => exact ⟨X, A2, c2, A4, c4, rfl, rfl, RdS.ownS h2, RdS.ownS h4, by omega, hg⟩
theorem typed_of {w : World} {base n c : Nat} {e : TypeId} {A : Option Addr} {xs : List Value} (h : w.ownsRow base e 1 (.slice A n c) n xs) : ∀ b o, A = some ⟨b, o, none⟩ → ∃ cur, w.heap[b]? = some (.cells cur e (0, 0)) :=
  fun b o hA => own_blk h (by rw [hA]; rfl)

/-- Two lists of numbers and two of costs are kept, and none shares memory with another. -/
theorem apart_book (gB B : Nat) (cs : Array Value) (AI AWI AC AWC : Option Addr) (cI cWI cC cWC : Nat) (v1 v2 q1 q2 u1 u2 r1 r2 : Value) (X Y : List Value) (w : World)
    (hb : w.heap[gB]? = some (.cells cs 59 (0, 0))) (h0 : cs[0]? = some (.slice AI 2 cI)) (h1 : cs[1]? = some (.slice AWI 2 cWI)) (h6 : cs[6]? = some (.slice AC 2 cC)) (h7 : cs[7]? = some (.slice AWC 2 cWC))
    (h2 : cs[2]? = some (.slice none 0 0)) (h4 : cs[4]? = some (.slice none 0 0)) (h8 : cs[8]? = some (.slice none 0 0))
    (oI : w.ownsRow B 30 1 (.slice AI 2 cI) 2 [v1, v2]) (oWI : w.ownsRow B 30 1 (.slice AWI 2 cWI) 2 [q1, q2]) (oC : w.ownsRow B 50 1 (.slice AC 2 cC) 2 [u1, u2]) (oWC : w.ownsRow B 50 1 (.slice AWC 2 cWC) 2 [r1, r2])
    (i1 : w.ownsRow B 3 1 v1 X.length X) (i2 : w.ownsRow B 3 1 v2 X.length X) (i3 : w.ownsRow B 3 1 q1 X.length X) (i4 : w.ownsRow B 3 1 q2 X.length X)
    (c1 : w.ownsRow B 64 1 u1 Y.length Y) (c2 : w.ownsRow B 64 1 u2 Y.length Y) (c3 : w.ownsRow B 64 1 r1 Y.length Y) (c4 : w.ownsRow B 64 1 r2 Y.length Y)
    (dI : ∀ k, v1.ownBlock = some k → v2.ownBlock ≠ some k) (dC : ∀ k, u1.ownBlock = some k → u2.ownBlock ≠ some k) (hX : X.length ≤ 800) (hY : Y.length ≤ 800) (gX : ∀ x, x ∈ X → GoodInts x) (gY : ∀ x, x ∈ Y → GoodCosts x) (hB : B ≤ w.heap.size) :
    Calls Try.prog 27 #[.pointer (some ⟨gB, 0, none⟩)] w fun e w' => e = .returned (.bool true) ∧ Kp (fun i => B ≤ i) w w' := by
  refine (apart_any gB B [v1, v2] [q1, q2] [u1, u2] [r1, r2] (fun _ => X) (fun _ => Y) AI AWI AC AWC cI cWI cC cWC w
    ⟨⟨cs, hb, h0, RdS.ownS oI⟩, ⟨cs, hb, h6, RdS.ownS oC⟩, (blk_cell hb 2).trans h2, (blk_cell hb 4).trans h4, (blk_cell hb 8).trans h8, typed_of oI, typed_of oC⟩
    ⟨cs, hb, h1, RdS.ownS oWI⟩ ⟨cs, hb, h7, RdS.ownS oWC⟩ (alikeInts_two i1 i2 i3 i4 hX gX) (alikeCosts_two c1 c2 c3 c4 hY gY) (ownFInts_two i1 i2) (ownFCosts_two c1 c2) (apartV_two dI) (apartV_two dC)
    (by simp) (by simp) rfl rfl (fun _ => hX) (fun _ => hY) hB).mono ?_
  rintro e w' ⟨rfl, k⟩
  refine ⟨rfl, k.mono (fun i hi => ?_)⟩
  rcases hi with ⟨j, v, hv, hk⟩ | ⟨j, v, hv, hk⟩
  · rcases two_at hv with ⟨rfl, rfl⟩ | ⟨rfl, rfl⟩
    · exact (own_lt i1 hk).1
    · exact (own_lt i2 hk).1
  · rcases two_at hv with ⟨rfl, rfl⟩ | ⟨rfl, rfl⟩
    · exact (own_lt c1 hk).1
    · exact (own_lt c2 hk).1

/-- What the tokens of all windows mean. -/
theorem cat_append (l : List ByteArray) (xs ys : List Nat) : cat l (xs ++ ys) = cat l xs ++ cat l ys := by simp [cat]
theorem bestM_says {l : List ByteArray} (hd : DictOk l) (wn : Nat) (hw : 1 ≤ wn) (f : Nat) : ∀ b : ByteArray, b.size ≤ f → b.size ≤ 2048 →
    cat l ((bestM l wn f b).map (·.1)) = b.data.toList ∧ (∀ t, t ∈ (bestM l wn f b).map (·.1) → t < 256 + l.length) ∧ (bestM l wn f b).length ≤ b.size := by
  induction f with
  | zero =>
    intro b hb _
    have hl : b.data.toList.length = b.size := Array.length_toList
    have he : b.data.toList = [] := List.eq_nil_of_length_eq_zero (by omega)
    simp [bestM, cat, he]
  | succ f ih =>
    intro b hb hb2
    have hl : b.data.toList.length = b.size := Array.length_toList
    by_cases h0 : b.size = 0
    · have he : b.data.toList = [] := List.eq_nil_of_length_eq_zero (by omega)
      simp [bestM, cat, he, h0]
    · have e : bestM l wn (f + 1) b = pathM l (b.extract 0 (min wn b.size)) ++ bestM l wn f (b.extract (min wn b.size) b.size) := by
        simp only [bestM]
        rw [if_neg h0]
      have s1 : (b.extract 0 (min wn b.size)).size = min wn b.size := by rw [extract_size _ _ _ (Nat.min_le_right _ _), Nat.sub_zero]
      have s2 : (b.extract (min wn b.size) b.size).size = b.size - min wn b.size := extract_size _ _ _ (Nat.le_refl _)
      have hp := (pathM_ok hd (b.extract 0 (min wn b.size)) (by omega)).1
      obtain ⟨i1, i2, i3⟩ := ih (b.extract (min wn b.size) b.size) (by omega) (by omega)
      have p1 := path_cat hd _ _ 0 (Nat.zero_le _) hp
      have p2 := path_tok hd _ _ 0 (Nat.zero_le _) hp
      have p3 := path_len hd _ _ 0 (Nat.zero_le _) hp
      rw [e]
      refine ⟨?_, ?_, ?_⟩
      · rw [List.map_append, cat_append, i1, p1, List.drop_zero, extract_data, extract_data, List.drop_zero, Nat.sub_zero]
        rw [List.take_of_length_le (l := List.drop _ _) (by rw [List.length_drop]; omega)]
        exact List.take_append_drop _ _
      · intro t ht
        rw [List.map_append] at ht
        rcases List.mem_append.1 ht with h | h
        · exact p2 t h
        · exact i2 t h
      · rw [List.length_append]
        omega

/-- What best.Parse answers, whatever the window. -/
def PW (l : List ByteArray) (b : ByteArray) (window : Int) : List (Nat × Nat) := if 1 ≤ window ∧ window ≤ 1024 then bestP l b window.toNat else []
theorem bparse_both (g : Nat) (l : List ByteArray) (b : ByteArray) (window : Int) (w : World) (h : DICT w g l) (hd : DictOk l) (hb : b.size ≤ 1024) :
    Calls Try.prog 22 #[.pointer (some ⟨g, 0, none⟩), .string b, .int .i64 window] w fun e w' =>
      ∃ v, e = .returned v ∧ w'.ownsRow w.heap.size 3 1 v (PW l b window).length (ints .i64 (toks (PW l b window))) ∧ Kp (fun _ => False) w w' := by
  by_cases hw : 1 ≤ window ∧ window ≤ 1024
  · obtain ⟨wn, rfl⟩ := Int.eq_ofNat_of_zero_le (show (0 : Int) ≤ window by omega)
    have e : PW l b (wn : Int) = bestP l b wn := by unfold PW; rw [if_pos hw]; rfl
    rw [e]
    exact bparse_any g l b wn w h hd hb (by omega) (by omega)
  · have e : PW l b window = [] := by unfold PW; rw [if_neg hw]
    rw [e]
    refine (bparse_none _ b window w (by omega) (by omega)).mono ?_
    rintro e w' ⟨rfl, rfl⟩
    exact ⟨_, rfl, World.ownsRow_nil _ _ _ _, Kp.refl _ _⟩
theorem PW_len {l : List ByteArray} (hd : DictOk l) (b : ByteArray) (window : Int) (hb : b.size ≤ 2048) : (PW l b window).length ≤ b.size := by
  unfold PW
  by_cases hw : 1 ≤ window ∧ window ≤ 1024
  · rw [if_pos hw]
    exact (bestM_says hd window.toNat (by omega) b.size b (Nat.le_refl _) hb).2.2
  · rw [if_neg hw]
    exact Nat.zero_le _

end Go.Proofs.Ytbhjckhhmcfpfaa

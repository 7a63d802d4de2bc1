/- BitsPlays returns true for every input (every list of calls, every string), and each argument reads afterwards as it read before. No condition. -/
import Derived.Test.YtbhjckhhmcfpfaaRows
import Derived.Test.YtbhjckhhmcfpfaaPlays
import Derived.ProofKit
import Derived.OpenShut
import Derived.ShutString
import Derived.ChangeOld
import Derived.SizedLaws
import Derived.Deep.Slices
import Derived.Deep.Fields
namespace Go.Proofs.Ytbhjckhhmcfpfaa.playsRow
open Go.ChangeShapes Go.WideShapes Go.ChangeAt Go.RowKit
open Go.ChangeMaps (open_string shut_string)
set_option linter.unusedVariables false
theorem own : ownKnob Try.prog.godebug = none := by kernel_rfl
theorem laidOut : laidOutB Try.prog = true := by kernel_rfl

theorem len3 {α : Type} {l : List α} (h : l.length = 3) : ∃ a b c, l = [a, b, c] := by
  match l, h with
  | [a, b, c], _ => exact ⟨a, b, c, rfl⟩

/-- The calls that a slice holds. -/
theorem opsOf {H : Type} {enc : TypeId × Value → H} {w : World} {base : Nat} {sp : Nat → Bool} {held : Bool} {a : Option Addr} {len cap : Nat} {d : DataW H} {ps : List MemPlace}
    (h : DataW.Trod enc Try.prog w base sp held 22 (.slice a len cap) d ps) : ∃ ops : List (Int × Int × Int), ops.length = len ∧ RdOps w a ops := by
  obtain ⟨fuel, hf⟩ := h
  rcases Go.Deep.open_slice Try.underlying22 hf with ⟨hcs, _⟩ | ⟨x, l, c, m, n, D, Pl, hcs, _, hl, _, hm, _, hi⟩
  · simp [Value.cells] at hcs
    obtain ⟨rfl, rfl, rfl⟩ := hcs
    exact ⟨[], rfl, fun j x hj => by simp at hj⟩
  · simp [Value.cells] at hcs
    obtain ⟨rfl, rfl, rfl⟩ := hcs
    have hC : Try.prog.cellsOf 33 = 3 := by kernel_rfl
    rw [hC] at hi
    have hlm : len ≤ m := by rw [hm]; split <;> omega
    have hC1 : Try.prog.cellsOf 3 = 1 := by kernel_rfl
    have each : ∀ i, i < len → ∃ y : Int × Int × Int, w.cell? ((x.add (i * 3)).add 0) = some (.int .i64 y.1) ∧ w.cell? ((x.add (i * 3)).add 1) = some (.int .i64 y.2.1) ∧ w.cell? ((x.add (i * 3)).add 2) = some (.int .i64 y.2.2) := by
      intro i hil
      obtain ⟨cs', hc, ht⟩ := hi i (by omega)
      obtain ⟨_, hcl, hat⟩ := World.cells?_some hc
      obtain ⟨ys, n', hn', hy, hlen, hyl, hfld⟩ := DataW.trod_struct Try.underlying33 ht
      have hys : ys.length = 3 := hyl
      obtain ⟨c0, c1, c2, rfl⟩ := len3 hcl
      obtain ⟨y0, y1, y2, rfl⟩ := len3 hys
      have h0 := hfld 0 _ rfl
      have h1 := hfld 1 _ rfl
      have h2 := hfld 2 _ rfl
      change DataW.trod enc Try.prog w base sp held n' 3 (List.take (Try.prog.cellsOf 3) [c0, c1, c2]) = some y0 at h0
      change DataW.trod enc Try.prog w base sp held n' 3 (List.take (Try.prog.cellsOf 3) [c1, c2]) = some y1 at h1
      change DataW.trod enc Try.prog w base sp held n' 3 (List.take (Try.prog.cellsOf 3) [c2]) = some y2 at h2
      rw [hC1] at h0 h1 h2
      obtain ⟨n0, e0, _, _⟩ := DataW.trod_int Try.underlying3 h0
      obtain ⟨n1, e1, _, _⟩ := DataW.trod_int Try.underlying3 h1
      obtain ⟨n2, e2, _, _⟩ := DataW.trod_int Try.underlying3 h2
      simp at e0 e1 e2
      subst e0 e1 e2
      exact ⟨(n0, n1, n2), hat 0 (by omega), hat 1 (by omega), hat 2 (by omega)⟩
    have pick : ∀ k, k ≤ len → ∃ ops : List (Int × Int × Int), ops.length = k ∧ ∀ j y, ops[j]? = some y → w.cell? ((x.add (j * 3)).add 0) = some (.int .i64 y.1) ∧ w.cell? ((x.add (j * 3)).add 1) = some (.int .i64 y.2.1) ∧ w.cell? ((x.add (j * 3)).add 2) = some (.int .i64 y.2.2) := by
      intro k
      induction k with
      | zero => intro _; exact ⟨[], rfl, fun j y hj => by simp at hj⟩
      | succ k ih =>
        intro hk
        obtain ⟨ops, ho, hr⟩ := ih (by omega)
        obtain ⟨y, hy⟩ := each k (by omega)
        refine ⟨ops ++ [y], by simp [ho], fun j z hj => ?_⟩
        by_cases hjk : j < k
        · rw [List.getElem?_append_left (by omega)] at hj
          exact hr j z hj
        · rw [List.getElem?_append_right (by omega)] at hj
          have : j = k := by
            have := (List.getElem?_eq_some_iff.1 hj).1
            simp at this; omega
          subst this
          rw [ho] at hj
          simp at hj
          subst hj
          exact hy
    obtain ⟨ops, ho, hr⟩ := pick len (Nat.le_refl _)
    refine ⟨ops, ho, fun j y hj => ?_⟩
    have hj0 : j < ops.length := (List.getElem?_eq_some_iff.1 hj).1
    obtain ⟨z, hz⟩ : ∃ z, ops[0]? = some z := ⟨_, List.getElem?_eq_getElem (by omega)⟩
    have hsp := (hr 0 z hz).1
    obtain ⟨xb, xo, xs⟩ := x
    have hspot : xs = none := by simpa [Addr.add] using World.cell?_spot hsp
    subst hspot
    have ea : ∀ a b, ((⟨xb, xo, none⟩ : Addr).add a).add b = ⟨xb, xo + a + b, none⟩ := by
      intro a b
      unfold Addr.add
      split <;> split <;> simp_all
    obtain ⟨h0, h1, h2⟩ := hr j y hj
    rw [ea] at h0 h1 h2
    exact ⟨xb, xo, rfl, h0, h1, h2⟩

set_option maxRecDepth 100000 in
theorem lifted (os : Os) (started : os.Started) (H : Type) (enc : TypeId × Value → H) :
    ReturnsInHanded {} Try.checked os 3 .any (Rows.bitsPlaysSpec.pre6 enc Try.prog Try.f3 Rows.bitsPlaysRow.domain false) (Rows.bitsPlaysSpec.post enc Try.prog Try.f3 false true false false) := by
  refine returnsInHanded_of_change_sized (C := Try.checked) own started (by kernel_rfl) Try.func3
    (ChangeSpec.witness6 (enc := enc) (C := Try.checked) false ⟨#[], #[.slice none 0 0, .string ByteArray.empty], []⟩ 8 (by kernel_rfl) (by kernel_rfl) (by kernel_rfl) (by kernel_rfl)) ?_
  intro W base args ds gs before hval0 hW hcnd hsz0 _
  have hsz : (DataW.weightsEach Try.prog (Try.f3.params.toList ++ Rows.bitsPlaysSpec.plain.varTypes Try.prog) (ds ++ gs)).all (· ≤ reachBytes) = true := hsz0
  have hval : ∀ (j : Nat) t v, Try.f3.params[j]? = some t → args[j]? = some v → Value.okWide Try.prog W .any base t v := hval0
  have hW' := hW
  obtain ⟨p, q, hA0, hV, rfl, hfz, hnd⟩ := hW
  have hA : DataW.TrodAll enc Try.prog W 0 (fun _ => true) true Try.f3.params.toList args.toList ds p := hA0
  rw [Try.params3] at hA hval hsz
  obtain ⟨v0, vs0, d0, ds0, p0, q0, hargs, rfl, rfl, h0, r0⟩ := trodAll_cons hA
  obtain ⟨v1, vs1, d1, ds1, p1, q1, rfl, rfl, rfl, h1, r1⟩ := trodAll_cons r0
  obtain ⟨rfl, rfl, rfl⟩ := trodAll_nil r1
  obtain rfl : args = #[v0, v1] := by cases args; simp_all
  obtain ⟨rfl, rfl⟩ := trodVars_none hV
  obtain ⟨a0, len0, cap0, rfl⟩ := okWide_slice Try.underlying22 (hval 0 22 v0 rfl rfl)
  have k0 := h0
  have lt0 : ∀ x ∈ p0, x.block < W.heap.size := by obtain ⟨m, hm⟩ := k0; exact DataW.trod_lt m _ _ _ hm
  obtain ⟨ops, rfl, hops⟩ := opsOf h0
  obtain ⟨a1, rfl, rfl, rfl, y1⟩ := open_string Try.underlying9 (hval 1 9 v1 rfl rfl) h1
  have w1 : a1.size ≤ 140737488351232 := by
    have z := sized_string hsz (j := 1) (t := 9) rfl rfl
    rw [Array.length_toList] at z
    exact z
  clear hA0 hval0 hsz0 hsz
  refine (plays_any a0 cap0 ops a1 W hops w1).mono fun e W' ⟨he, hk⟩ => ?_
  have bel := hk.toBelow (fun _ h => h.elim)
  subst he
  exact ⟨_, rfl, _, _, _, [], _, [], hW', trodAll_mk1 (shut_bool Try.underlying4 _), (trodAll_cons_mk (Below.trod laidOut (by kernel_rfl) (of_decide_eq_true (by kernel_rfl)) k0 bel lt0) (trodAll_cons_mk (shut_string Try.underlying9 y1) trodAll_mk0)), rfl, bel.frame _, fun h => by cases h⟩

theorem over : Rows.bitsPlaysRow.holds Try.pinned (OpenSpec.ofChange Rows.bitsPlaysSpec) :=
  OpenClaim.holds_of_wide 3 Try.f3 rfl rfl rfl rfl rfl rfl rfl ⟨rfl, rfl, rfl, rfl, rfl⟩ rfl rfl rfl rfl rfl (by kernel_rfl) Try.func3 (by kernel_rfl)
    (of_decide_eq_true (by kernel_rfl)) (by unfold Func.isWrapper; first | (rw [if_pos (by decide +kernel)]; kernel_rfl) | (rw [if_neg (by decide +kernel)]; exact ⟨rfl, rfl⟩))
    (fun os started H enc _ => lifted os started H enc)
end Go.Proofs.Ytbhjckhhmcfpfaa.playsRow
namespace Go.Proofs.Ytbhjckhhmcfpfaa
/-- The row, under a short name, for the claim. -/
theorem bitsPlays_holds : Rows.BitsPlaysSaid := playsRow.over
end Go.Proofs.Ytbhjckhhmcfpfaa

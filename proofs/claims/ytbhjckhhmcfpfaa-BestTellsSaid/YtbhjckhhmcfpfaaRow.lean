/- How the statements' arguments read: lists of strings, lists of whole numbers. No statement of the seat is proved here. -/
import Derived.Test.YtbhjckhhmcfpfaaStrs
import Derived.ProofKit
import Derived.OpenShut
import Derived.ShutString
import Derived.ChangeOld
import Derived.SizedLaws
import Derived.ChangeSlices
import Derived.SliceStrings
namespace Go.Proofs.Ytbhjckhhmcfpfaa.rows
open Go.ChangeShapes Go.WideShapes Go.ChangeAt Go.RowKit
set_option linter.unusedVariables false
set_option linter.unusedSimpArgs false
theorem own : ownKnob Try.prog.godebug = none := by kernel_rfl
theorem laidOut : laidOutB Try.prog = true := by kernel_rfl

theorem reach_eq : reachBytes = 140737488351232 := rfl
theorem weightsAll_mem {H : Type} {P : Program} {e : TypeId} : ∀ {l : List (DataW H)} {d : DataW H}, d ∈ l → ∀ n ∈ d.weights P e, n ∈ DataW.weightsAll P e l
  | d' :: r, d, hd, n, hn => by
    simp only [DataW.weightsAll, List.mem_append]
    rcases List.mem_cons.1 hd with rfl | h
    · exact Or.inl hn
    · exact Or.inr (weightsAll_mem h n hn)
theorem each_weight {H : Type} {P : Program} {ts : List TypeId} {ds : List (DataW H)} (h : (DataW.weightsEach P ts ds).all (· ≤ reachBytes) = true) {j : Nat} {t : TypeId} {d : DataW H} (ht : ts[j]? = some t) (hd : ds[j]? = some d) :
    ∀ n ∈ d.weights P t, n ≤ reachBytes := fun n hn => of_decide_eq_true (List.all_eq_true.1 h _ (DataW.weights_mem_each ht hd n hn))
theorem bytes_str : Try.prog.bytesOf 9 = 16 := by kernel_rfl
theorem bytes_int : Try.prog.bytesOf 3 = 8 := by kernel_rfl

/-- The strings that a slice holds. -/
theorem strsOf {H : Type} {enc : TypeId × Value → H} {w : World} {base : Nat} {sp : Nat → Bool} {held : Bool} {a : Option Addr} {len cap : Nat} {d : DataW H} {ps : List MemPlace}
    (h : DataW.Trod enc Try.prog w base sp held 45 (.slice a len cap) d ps) (hz : ∀ n ∈ d.weights Try.prog 45, n ≤ reachBytes) :
    ∃ l : List ByteArray, l.length = len ∧ RdS w a (Go.Proofs.Ytbhjckhhmcfpfaa.strs l) ∧ l.length ≤ 140737488355328 ∧ ∀ s, s ∈ l → s.size ≤ 140737488351232 := by
  obtain ⟨fuel, hf⟩ := h
  rcases open_strings Try.underlying45 Try.underlying9 (by kernel_rfl) hf with ⟨hcs, _⟩ | ⟨x, l, c, ss, hcs, _, hl, _, hsl, hx, hcell, _⟩
  · simp [Value.cells] at hcs
    obtain ⟨rfl, rfl, rfl⟩ := hcs
    exact ⟨[], rfl, fun j x hj => by simp [Go.Proofs.Ytbhjckhhmcfpfaa.strs] at hj, by simp, fun s hs => by cases hs⟩
  · simp [Value.cells] at hcs
    obtain ⟨rfl, rfl, rfl⟩ := hcs
    have hlz : len ≤ ss.length := by rw [hsl]; split <;> omega
    have hd : d = .slice (ChangeShapes.strs (ss.take len)) (ChangeShapes.strs (ss.drop len)) := congrArg Prod.fst hx
    have hu : Try.prog.underlying 45 = some (.slice 9) := Try.underlying45
    have hlen : (ss.take len).length = len := by simp; omega
    refine ⟨ss.take len, hlen, fun j y hj => ?_, ?_, fun s hs => ?_⟩
    · simp only [Go.Proofs.Ytbhjckhhmcfpfaa.strs, List.getElem?_map] at hj
      obtain ⟨z, hz1, rfl⟩ := Option.map_eq_some_iff.1 hj
      have hj1 : j < len ∧ ss[j]? = some z := by
        rw [List.getElem?_take] at hz1
        split at hz1
        · exact ⟨by assumption, hz1⟩
        · cases hz1
      have h0 := hcell 0 (by omega)
      have hjc := hcell j (by omega)
      obtain ⟨xb, xo, xs⟩ := x
      have hspot : xs = none := by simpa [Addr.add] using World.cell?_spot h0
      subst hspot
      have ea : (⟨xb, xo, none⟩ : Addr).add j = ⟨xb, xo + j, none⟩ := by
        unfold Addr.add
        split <;> simp_all
      rw [ea] at hjc
      refine ⟨xb, xo, rfl, ?_⟩
      rw [hjc]
      simp [List.getD_eq_getElem?_getD, hj1.2]
    · have h1 := hz (((ChangeShapes.strs (H := H) (ss.take len)).length + (ChangeShapes.strs (H := H) (ss.drop len)).length) * Try.prog.bytesOf 9) (by rw [hd]; simp [DataW.weights, hu])
      rw [bytes_str, reach_eq] at h1
      have h2 : (ChangeShapes.strs (H := H) (ss.take len)).length = len := by rw [ChangeShapes.strs, List.length_map]; exact hlen
      rw [hlen]
      omega
    · have h1 := hz s.data.toList.length (by
        rw [hd]
        simp only [DataW.weights, hu, List.mem_cons, List.mem_append]
        refine Or.inr (Or.inl (weightsAll_mem (d := .lit (.string s.data.toList)) (List.mem_map.2 ⟨s, hs, rfl⟩) _ (by simp [DataW.weights])))
        )
      rw [reach_eq, Array.length_toList] at h1
      exact h1

/-- The numbers that a slice holds. -/
theorem intsOf {H : Type} {enc : TypeId × Value → H} {w : World} {base : Nat} {sp : Nat → Bool} {held : Bool} {a : Option Addr} {len cap : Nat} {d : DataW H} {ps : List MemPlace}
    (h : DataW.Trod enc Try.prog w base sp held 30 (.slice a len cap) d ps) : ∃ l : List Int, l.length = len ∧ RdS w a (ints .i64 l) ∧ l.length ≤ 9223372036854775807 := by
  obtain ⟨fuel, hf⟩ := h
  rcases open_ints Try.underlying30 Try.underlying3 (by kernel_rfl) hf with ⟨hcs, _⟩ | ⟨x, l, c, zs, hcs, _, hl, hmx, hz, _, hcell, _⟩
  · simp [Value.cells] at hcs
    obtain ⟨rfl, rfl, rfl⟩ := hcs
    exact ⟨[], rfl, fun j x hj => by simp [ints] at hj, by simp⟩
  · simp [Value.cells] at hcs
    obtain ⟨rfl, rfl, rfl⟩ := hcs
    have hlz : len ≤ zs.length := by rw [hz]; split <;> omega
    refine ⟨zs.take len, by simp; omega, fun j y hj => ?_, by simp only [maxLen] at hmx; rw [List.length_take]; omega⟩
    simp only [ints, List.getElem?_map] at hj
    obtain ⟨z, hz1, rfl⟩ := Option.map_eq_some_iff.1 hj
    have hj1 : j < len ∧ zs[j]? = some z := by
      rw [List.getElem?_take] at hz1
      split at hz1
      · exact ⟨by assumption, hz1⟩
      · cases hz1
    have h0 := hcell 0 (by omega)
    have hjc := hcell j (by omega)
    obtain ⟨xb, xo, xs⟩ := x
    have hspot : xs = none := by simpa [Addr.add] using World.cell?_spot h0
    subst hspot
    have ea : (⟨xb, xo, none⟩ : Addr).add j = ⟨xb, xo + j, none⟩ := by
      unfold Addr.add
      split <;> simp_all
    rw [ea] at hjc
    refine ⟨xb, xo, rfl, ?_⟩
    rw [hjc]
    simp [List.getD_eq_getElem?_getD, hj1.2]
end Go.Proofs.Ytbhjckhhmcfpfaa.rows

/- The book's functions on kinds of which nothing is kept. -/
import Derived.Test.YtbhjckhhmcfpfaaBkCosts
namespace Go.Proofs.Ytbhjckhhmcfpfaa
open Go.RowKit
set_option linter.unusedVariables false
set_option linter.unusedSimpArgs false
/-- A field of the book in which nothing lies. -/
def BN (w : World) (gB i : Nat) : Prop := w.cell? ⟨gB, i, none⟩ = some (.slice none 0 0)

set_option maxRecDepth 100000 in
theorem stillTexts_none (gB : Nat) (w : World) (h : BN w gB 2) :
    Calls Try.prog 48 #[.pointer (some ⟨gB, 0, none⟩)] w fun e w' => e = .returned (.bool true) ∧ Dr w w' := by
  go_enter Try.func48, Try.ntmps48
  go_wp2_with fail
  go_loopw [3] (fun i wr => ∃ m, i = .int .i64 0 ∧ wr = w.drewN m) (fun _ _ => 0)
  case atStart => exact ⟨0, rfl, rfl⟩
  case round =>
    obtain ⟨m, hm⟩ := hrel
    obtain ⟨rfl, rfl⟩ := hm
    have h2 : (w.drewN m).cell? ⟨gB, _, none⟩ = some (.slice none 0 0) := h
    go_wp2_with fail
    go_ret
    exact ⟨rfl, ⟨_, rfl⟩⟩

set_option maxRecDepth 100000 in
theorem putTexts_none (gB : Nat) (w : World) (h : BN w gB 2) :
    Calls Try.prog 53 #[.pointer (some ⟨gB, 0, none⟩)] w fun e w' => e = .returned (.tuple #[]) ∧ Dr w w' := by
  go_enter Try.func53, Try.ntmps53
  go_wp2_with fail
  go_loopw [2] (fun i wr => ∃ m, i = .int .i64 0 ∧ wr = w.drewN m) (fun _ _ => 0)
  case atStart => exact ⟨0, rfl, rfl⟩
  case round =>
    obtain ⟨m, hm⟩ := hrel
    obtain ⟨rfl, rfl⟩ := hm
    have h2 : (w.drewN m).cell? ⟨gB, _, none⟩ = some (.slice none 0 0) := h
    go_wp2_with fail
    go_end0
    exact ⟨rfl, ⟨_, rfl⟩⟩

set_option maxRecDepth 100000 in
theorem growTexts_none (gB : Nat) (w : World) (h : BN w gB 2) :
    Calls Try.prog 58 #[.pointer (some ⟨gB, 0, none⟩)] w fun e w' => e = .returned (.slice none 0 0) ∧ Dr w w' := by
  go_enter Try.func58, Try.ntmps58
  go_wp2_with fail
  go_loopw [3, 4] (fun v i wr => ∃ m, v = .slice none 0 0 ∧ i = .int .i64 0 ∧ wr = w.drewN m) (fun _ _ _ => 0)
  case atStart => exact ⟨0, rfl, rfl, rfl⟩
  case round =>
    obtain ⟨m, hm⟩ := hrel
    obtain ⟨rfl, rfl, rfl⟩ := hm
    have h2 : (w.drewN m).cell? ⟨gB, _, none⟩ = some (.slice none 0 0) := h
    go_wp2_with fail
    go_ret
    exact ⟨rfl, ⟨_, rfl⟩⟩

set_option maxRecDepth 100000 in
theorem markedTexts_none (w : World) :
    Calls Try.prog 63 #[.slice none 0 0] w fun e w' => e = .returned (.bool true) ∧ Dr w w' := by
  go_enter Try.func63, Try.ntmps63
  go_wp2_with fail
  go_loopw [3] (fun i wr => ∃ m, i = .int .i64 0 ∧ wr = w.drewN m) (fun _ _ => 0)
  case atStart => exact ⟨0, rfl, rfl⟩
  case round =>
    obtain ⟨m, hm⟩ := hrel
    obtain ⟨rfl, rfl⟩ := hm
    skip
    go_wp2_with fail
    go_ret
    exact ⟨rfl, ⟨_, rfl⟩⟩

set_option maxRecDepth 100000 in
theorem stillHits_none (gB : Nat) (w : World) (h : BN w gB 4) :
    Calls Try.prog 49 #[.pointer (some ⟨gB, 0, none⟩)] w fun e w' => e = .returned (.bool true) ∧ Dr w w' := by
  go_enter Try.func49, Try.ntmps49
  go_wp2_with fail
  go_loopw [3] (fun i wr => ∃ m, i = .int .i64 0 ∧ wr = w.drewN m) (fun _ _ => 0)
  case atStart => exact ⟨0, rfl, rfl⟩
  case round =>
    obtain ⟨m, hm⟩ := hrel
    obtain ⟨rfl, rfl⟩ := hm
    have h2 : (w.drewN m).cell? ⟨gB, _, none⟩ = some (.slice none 0 0) := h
    go_wp2_with fail
    go_ret
    exact ⟨rfl, ⟨_, rfl⟩⟩

set_option maxRecDepth 100000 in
theorem putHits_none (gB : Nat) (w : World) (h : BN w gB 4) :
    Calls Try.prog 54 #[.pointer (some ⟨gB, 0, none⟩)] w fun e w' => e = .returned (.tuple #[]) ∧ Dr w w' := by
  go_enter Try.func54, Try.ntmps54
  go_wp2_with fail
  go_loopw [2] (fun i wr => ∃ m, i = .int .i64 0 ∧ wr = w.drewN m) (fun _ _ => 0)
  case atStart => exact ⟨0, rfl, rfl⟩
  case round =>
    obtain ⟨m, hm⟩ := hrel
    obtain ⟨rfl, rfl⟩ := hm
    have h2 : (w.drewN m).cell? ⟨gB, _, none⟩ = some (.slice none 0 0) := h
    go_wp2_with fail
    go_end0
    exact ⟨rfl, ⟨_, rfl⟩⟩

set_option maxRecDepth 100000 in
theorem growHits_none (gB : Nat) (w : World) (h : BN w gB 4) :
    Calls Try.prog 59 #[.pointer (some ⟨gB, 0, none⟩)] w fun e w' => e = .returned (.slice none 0 0) ∧ Dr w w' := by
  go_enter Try.func59, Try.ntmps59
  go_wp2_with fail
  go_loopw [3, 4] (fun v i wr => ∃ m, v = .slice none 0 0 ∧ i = .int .i64 0 ∧ wr = w.drewN m) (fun _ _ _ => 0)
  case atStart => exact ⟨0, rfl, rfl, rfl⟩
  case round =>
    obtain ⟨m, hm⟩ := hrel
    obtain ⟨rfl, rfl, rfl⟩ := hm
    have h2 : (w.drewN m).cell? ⟨gB, _, none⟩ = some (.slice none 0 0) := h
    go_wp2_with fail
    go_ret
    exact ⟨rfl, ⟨_, rfl⟩⟩

set_option maxRecDepth 100000 in
theorem markedHits_none (w : World) :
    Calls Try.prog 64 #[.slice none 0 0] w fun e w' => e = .returned (.bool true) ∧ Dr w w' := by
  go_enter Try.func64, Try.ntmps64
  go_wp2_with fail
  go_loopw [3] (fun i wr => ∃ m, i = .int .i64 0 ∧ wr = w.drewN m) (fun _ _ => 0)
  case atStart => exact ⟨0, rfl, rfl⟩
  case round =>
    obtain ⟨m, hm⟩ := hrel
    obtain ⟨rfl, rfl⟩ := hm
    skip
    go_wp2_with fail
    go_ret
    exact ⟨rfl, ⟨_, rfl⟩⟩

set_option maxRecDepth 100000 in
theorem stillBytes_none (gB : Nat) (w : World) (h : BN w gB 8) :
    Calls Try.prog 51 #[.pointer (some ⟨gB, 0, none⟩)] w fun e w' => e = .returned (.bool true) ∧ Dr w w' := by
  go_enter Try.func51, Try.ntmps51
  go_wp2_with fail
  go_loopw [3] (fun i wr => ∃ m, i = .int .i64 0 ∧ wr = w.drewN m) (fun _ _ => 0)
  case atStart => exact ⟨0, rfl, rfl⟩
  case round =>
    obtain ⟨m, hm⟩ := hrel
    obtain ⟨rfl, rfl⟩ := hm
    have h2 : (w.drewN m).cell? ⟨gB, _, none⟩ = some (.slice none 0 0) := h
    go_wp2_with fail
    go_ret
    exact ⟨rfl, ⟨_, rfl⟩⟩

set_option maxRecDepth 100000 in
theorem putBytes_none (gB : Nat) (w : World) (h : BN w gB 8) :
    Calls Try.prog 56 #[.pointer (some ⟨gB, 0, none⟩)] w fun e w' => e = .returned (.tuple #[]) ∧ Dr w w' := by
  go_enter Try.func56, Try.ntmps56
  go_wp2_with fail
  go_loopw [2] (fun i wr => ∃ m, i = .int .i64 0 ∧ wr = w.drewN m) (fun _ _ => 0)
  case atStart => exact ⟨0, rfl, rfl⟩
  case round =>
    obtain ⟨m, hm⟩ := hrel
    obtain ⟨rfl, rfl⟩ := hm
    have h2 : (w.drewN m).cell? ⟨gB, _, none⟩ = some (.slice none 0 0) := h
    go_wp2_with fail
    go_end0
    exact ⟨rfl, ⟨_, rfl⟩⟩

set_option maxRecDepth 100000 in
theorem growBytes_none (gB : Nat) (w : World) (h : BN w gB 8) :
    Calls Try.prog 61 #[.pointer (some ⟨gB, 0, none⟩)] w fun e w' => e = .returned (.slice none 0 0) ∧ Dr w w' := by
  go_enter Try.func61, Try.ntmps61
  go_wp2_with fail
  go_loopw [3, 4] (fun v i wr => ∃ m, v = .slice none 0 0 ∧ i = .int .i64 0 ∧ wr = w.drewN m) (fun _ _ _ => 0)
  case atStart => exact ⟨0, rfl, rfl, rfl⟩
  case round =>
    obtain ⟨m, hm⟩ := hrel
    obtain ⟨rfl, rfl, rfl⟩ := hm
    have h2 : (w.drewN m).cell? ⟨gB, _, none⟩ = some (.slice none 0 0) := h
    go_wp2_with fail
    go_ret
    exact ⟨rfl, ⟨_, rfl⟩⟩

set_option maxRecDepth 100000 in
theorem markedBytes_none (w : World) :
    Calls Try.prog 66 #[.slice none 0 0] w fun e w' => e = .returned (.bool true) ∧ Dr w w' := by
  go_enter Try.func66, Try.ntmps66
  go_wp2_with fail
  go_loopw [3] (fun i wr => ∃ m, i = .int .i64 0 ∧ wr = w.drewN m) (fun _ _ => 0)
  case atStart => exact ⟨0, rfl, rfl⟩
  case round =>
    obtain ⟨m, hm⟩ := hrel
    obtain ⟨rfl, rfl⟩ := hm
    skip
    go_wp2_with fail
    go_ret
    exact ⟨rfl, ⟨_, rfl⟩⟩

end Go.Proofs.Ytbhjckhhmcfpfaa

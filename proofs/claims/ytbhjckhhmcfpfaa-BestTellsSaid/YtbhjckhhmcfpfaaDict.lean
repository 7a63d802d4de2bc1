/- Dictionaries: strings.Clone, slices.Clone, dict.New, All, and what makes them in the statements (Few, Phrases, Make, Dict). What each returns; nothing old is written. -/
import Derived.Test.YtbhjckhhmcfpfaaWays
import Derived.Test.YtbhjckhhmcfpfaaArms
import Derived.Lib.BufferWrite
import Derived.Lib.UnsafeStr
import Derived.Laws.MakeOwn
import Derived.ArgAppend
namespace Go.Proofs.Ytbhjckhhmcfpfaa
open Go.RowKit
set_option linter.unusedVariables false
set_option linter.unusedSimpArgs false

theorem below_kp {w w' : World} (h : Below w.heap.size w w') : Kp (fun _ => False) w w' := (Kp.refl _ w).below h (Nat.le_refl _)
theorem info_str : (Try.prog.info? 9).map (fun i => (i.zero, i.size, i.bytes)) = some (some (.string ⟨#[]⟩), 1, 16) := by kernel_rfl

set_option maxHeartbeats 4000000 in
set_option maxRecDepth 100000 in
/-- A copy of a string. -/
theorem slClone_any (s : ByteArray) (w : World) (hlim : s.size ≤ 140737488351232) :
    Calls Try.prog 107 #[.string s] w fun e w' => e = .returned (.string s) ∧ Kp (fun _ => False) w w' := by
  by_cases h0 : s.size = 0
  · have hs : s = ⟨#[]⟩ := by
      apply ByteArray.ext
      exact Array.eq_empty_of_size_eq_zero h0
    subst hs
    go_enter Try.func107, Try.ntmps107
    go_wp2_with fail
    go_ret
    exact ⟨rfl, Kp.refl _ _⟩
  · obtain ⟨i0, hi, hz0, hz1, hz2⟩ := info_parts info_u8
    have hinfo : (Try.prog.info? 5).map (·.size) = some 1 := by rw [hi]; simp [hz1]
    have hco : Try.prog.cellsOf 5 = 1 := by simp [Program.cellsOf, hi, hz1]
    obtain ⟨M, hM⟩ : ∃ M, M = madeCells (Value.int .u8 0).cells (((s.size : Nat) : Int).toNat * i0.size) := ⟨_, rfl⟩
    have hMs : M.size = s.size := by rw [hM, size_madeCells, hz1]; simp
    have hmk : ∀ W : World, (Instr.makeSlice 25 (.int .i64 (s.size : Int)) (.int .i64 (s.size : Int))).run Try.prog W = .ok (.slice (some ⟨W.heap.size, 0, none⟩) s.size s.size) (W.alloc (.cells M 5)) := fun W => by
      have h := run_make (P := Try.prog) W 25 5 i0 (.int .u8 0) Try.underlying25 hi hz0 .i64 .i64 (s.size : Int) (s.size : Int) (by omega) (by omega) (by rw [hz2]; omega) (by omega)
      rw [← hM] at h
      simpa using h
    clear hM
    have hcp := Lib.run_copy_row_string (P := Try.prog) (w.alloc (.cells M 5)) 25 9 3 5 w.heap.size 0 s.size s.size s M 5 Try.underlying25 hinfo (heap_alloc_new w _) (Nat.le_refl _) (by omega)
    obtain ⟨Y, hY⟩ : ∃ Y, Y = (M.toList.take 0 ++ Lib.byteCells s.data.toList ++ M.toList.drop (0 + s.size)).toArray := ⟨_, rfl⟩
    rw [← hY] at hcp
    have hYl : Y.toList = Lib.byteCells s.data.toList := by
      rw [hY, List.toList_toArray, List.take_zero, List.nil_append, List.drop_of_length_le (by rw [Array.length_toList]; omega), List.append_nil]
    have hYs : Y.size = s.size := by rw [← Array.length_toList, hYl, Lib.byteCells_length, ← Lib.size_eq]
    have hgY : ((w.alloc (.cells M 5)).setRow w.heap.size Y).heap[w.heap.size]? = some (.cells Y 5 (0, 0)) := setRow_heap _ _ M _ 5 (0, 0) (heap_alloc_new w _)
    have hne : s.data.toList ≠ [] := fun e => h0 (by rw [Lib.size_eq, e]; rfl)
    have hUS := Lib.run_unsafeString_row (P := Try.prog) ((w.alloc (.cells M 5)).setRow w.heap.size Y) 153 3 9 5 Try.underlying153 hco w.heap.size Y.size (by unfold World.shape?; rw [hgY]) s.data.toList hne (by rw [← Lib.size_eq]; omega) (by rw [← Lib.size_eq]; omega)
      (fun j x hx => Lib.cells_of_row hgY Y.size j _ (by rw [List.take_of_length_le (by rw [Array.length_toList]; exact Nat.le_refl _), hYl]; simp [Lib.byteCells, hx]))
    rw [← Lib.size_eq] at hUS
    clear hY
    go_enter Try.func107, Try.ntmps107
    go_wp2_with fail
    go_ret
    have hb1 : Below w.heap.size w (w.alloc (.cells M 5)) := (Below.refl _ w).alloc (Nat.le_refl _) _
    have hb2 : Below w.heap.size (w.alloc (.cells M 5)) ((w.alloc (.cells M 5)).setRow w.heap.size Y) := ⟨rfl, rfl, rfl, by simp, fun k hk => setRow_other _ _ _ _ (by omega)⟩
    exact ⟨rfl, below_kp (Lib.below_freeze (hb1.trans hb2) (p := ⟨w.heap.size, 0, none⟩) (Nat.le_refl _) _)⟩

set_option maxHeartbeats 400000 in
theorem strClone_any (s : ByteArray) (w : World) (hlim : s.size ≤ 140737488351232) :
    Calls Try.prog 101 #[.string s] w fun e w' => e = .returned (.string s) ∧ Kp (fun _ => False) w w' := by
  go_enter Try.func101, Try.ntmps101
  go_wp2_with fail
  refine (slClone_any s w hlim).mono ?_
  rintro e w' ⟨rfl, hk⟩
  have HK := Lib.hid hk
  clear hk
  go_wp2_with fail
  go_ret
  exact ⟨rfl, HK.out⟩

set_option maxHeartbeats 1000000 in
theorem idxS_any (A : Option Addr) (cap0 : Nat) (l : List ByteArray) (s : ByteArray) (w : World) (hr : RdS w A (strs l)) (hl : l.length ≤ 1000000000) :
    Calls Try.prog 106 #[.slice A l.length cap0, .string s] w fun e w' => e = .returned (.int .i64 (findI l s)) ∧ w = w' := by
  have HR := Lib.hid hr
  clear hr
  go_enter Try.func106, Try.ntmps106
  go_wp2_with fail
  go_loop [8] (fun i => ∃ k : Nat, k ≤ l.length ∧ i = .int .i64 k ∧ Hid (s ∉ l.take k)) (fun i => l.length - (intOf i).toNat)
  case atStart => exact ⟨0, Nat.zero_le _, rfl, by show ¬ _; simp⟩
  case round =>
    obtain ⟨k, hk, rfl, HY⟩ := hrel
    by_cases hlt : k < l.length
    · obtain ⟨z, b, o, hz, rfl, hc⟩ := HR.out.atS hlt
      have HX := Lib.hid hz
      have HT : l.take (k + 1) = l.take k ++ [z] := by rw [List.take_add_one, hz]; rfl
      have HT := Lib.hid HT
      clear hz
      by_cases hg : s = z
      · subst hg
        go_wp2_with fail
        go_ret
        refine ⟨?_, rfl⟩
        rw [findI_at HX.out HY.out]
        rfl
      · have hgb := str_ne hg
        go_wp2_with fail
        refine ⟨⟨k + 1, by omega, by simp, by show ¬ _; rw [HT.out, List.mem_append, not_or]; exact ⟨HY.out, by simp [hg]⟩⟩, by simp only [intOf]; omega⟩
    · go_wp2_with fail
      go_ret
      obtain rfl : k = l.length := by omega
      refine ⟨?_, rfl⟩
      have := HY.out
      rw [List.take_length] at this
      rw [findI_none this]
      rfl

set_option maxHeartbeats 400000 in
theorem containsS_any (A : Option Addr) (cap0 : Nat) (l : List ByteArray) (s : ByteArray) (w : World) (hr : RdS w A (strs l)) (hl : l.length ≤ 1000000000) :
    Calls Try.prog 100 #[.slice A l.length cap0, .string s] w fun e w' => e = .returned (.bool (decide (0 ≤ findI l s))) ∧ w = w' := by
  have HR := Lib.hid hr
  clear hr
  obtain ⟨F, HF⟩ : ∃ F, Hid (F = findI l s) := ⟨_, Lib.hid rfl⟩
  go_enter Try.func100, Try.ntmps100
  go_wp2_with fail
  refine (idxS_any A cap0 l s w HR.out hl).mono ?_
  rintro e w' ⟨rfl, rfl⟩
  rw [← HF.out]
  go_wp2_with fail
  go_ret
  exact ⟨by rw [← HF.out]; rfl, rfl⟩

set_option maxRecDepth 100000 in
set_option maxHeartbeats 1000000 in
/-- A copy of a list of strings. -/
theorem slicesCloneS_any (A : Option Addr) (cap0 : Nat) (l : List ByteArray) (w : World) (hr : RdS w A (strs l)) (hl : l.length ≤ 1000000) (hnil : l = [] → A = none ∧ cap0 = 0) :
    Calls Try.prog 102 #[.slice A l.length cap0] w fun e w' => ∃ v, e = .returned v ∧ w'.ownsRow w.heap.size 9 1 v l.length (strs l) ∧ Kp (fun _ => False) w w' := by
  by_cases h0 : l = []
  · subst h0
    obtain ⟨rfl, rfl⟩ := hnil rfl
    have heq := fun w' => Lib.run_eql_slice_nil (P := Try.prog) w' 45 9 none 0 0 0 0 Try.underlying45
    go_enter Try.func102, Try.ntmps102
    go_wp2_with fail
    go_ret
    exact ⟨_, rfl, World.ownsRow_nil _ _ _ _, Kp.refl _ _⟩
  · have hlp : 0 < l.length := List.length_pos_iff.2 h0
    obtain ⟨z, b, o, hz, rfl, hc⟩ := hr.atS hlp
    have HR := Lib.hid hr
    clear hr hz hc hnil h0
    have heq := fun w' => Lib.run_eql_slice_nil (P := Try.prog) w' 45 9 (some ⟨b, o, none⟩) l.length cap0 0 0 Try.underlying45
    go_enter Try.func102, Try.ntmps102
    go_wp2_with (at_builtin; refine appN w.heap.size rfl _ _ 45 9 (.string ⟨#[]⟩) 1 16 rfl Try.underlying45 info_str rfl (by decide) (by decide) (.slice (some ⟨w.heap.size, 0, none⟩) 0 0) 0 [] (some ⟨b, o, none⟩) l.length cap0 (strs l) rfl rfl (fun h => by cases h) (HR.out.ofAlloc _) (by simp [strs]) (strs_one l) (World.ownsRow_made _ _ _ (Nat.le_refl _) (by decide) rfl) (by simp) (by omega) ?_; intro v w1 hown hgrow hfr; have HO := Lib.hid hown; have HG := Lib.hid hgrow; clear hown hgrow hfr)
    go_ret
    have := HO.out
    rw [Nat.zero_add, List.nil_append] at this
    exact ⟨v, rfl, this, ((Kp.refl _ w).alloc _).grown HG.out (fun k hk => .inr (by simp [Value.ownBlock] at hk; omega))⟩

/-- A dictionary at block g. -/
def DICT (w : World) (g : Nat) (l : List ByteArray) : Prop :=
  ∃ A cap, w.heap[g]? = some (.cells #[.slice A l.length cap] 146 (0, 0)) ∧ RdS w A (strs l) ∧ (l = [] → A = none ∧ cap = 0)
theorem DICT.kp {w w1 : World} {g : Nat} {l : List ByteArray} (h : DICT w g l) (k : Kp (fun _ => False) w w1) : DICT w1 g l := by
  obtain ⟨A, cap, h1, h2, h3⟩ := h
  exact ⟨A, cap, k.blk h1 (fun h => h), h2.kp k (fun _ _ _ h => h), h3⟩

set_option maxHeartbeats 400000 in
theorem all_any (g : Nat) (l : List ByteArray) (w : World) (h : DICT w g l) (hl : l.length ≤ 1000000) :
    Calls Try.prog 78 #[.pointer (some ⟨g, 0, none⟩)] w fun e w' => ∃ v, e = .returned v ∧ w'.ownsRow w.heap.size 9 1 v l.length (strs l) ∧ Kp (fun _ => False) w w' := by
  obtain ⟨A, cap, h1, h2, h3⟩ := h
  have c0 : w.cell? ⟨g, 0, none⟩ = some (.slice A l.length cap) := (blk_cell h1 0).trans rfl
  have HR := Lib.hid h2
  have H3 := Lib.hid h3
  clear h1 h2 h3
  go_enter Try.func78, Try.ntmps78
  go_wp2_with fail
  refine (slicesCloneS_any A cap l w HR.out hl H3.out).mono ?_
  rintro e w' ⟨v, rfl, ho, hk⟩
  have HO := Lib.hid ho
  have HK := Lib.hid hk
  clear ho hk
  go_wp2_with fail
  go_ret
  exact ⟨v, rfl, HO.out, HK.out⟩

/-- The bytes of all phrases. -/
def bytesN (l : List ByteArray) : Nat := (l.map ByteArray.size).sum
theorem bytesN_snoc (l : List ByteArray) (s : ByteArray) : bytesN (l ++ [s]) = bytesN l + s.size := by simp [bytesN]
theorem bytesN_take (l : List ByteArray) (k : Nat) : bytesN (l.take k) ≤ bytesN l := by
  unfold bytesN
  rw [List.map_take]
  have h := List.sum_append (l₁ := (l.map ByteArray.size).take k) (l₂ := (l.map ByteArray.size).drop k)
  rw [List.take_append_drop] at h
  omega
def NewRel (l : List ByteArray) (g k : Nat) (v : Value) (w wr : World) : Prop :=
  wr.heap[g]? = some (.cells #[v] 146 (0, 0)) ∧ wr.ownsRow w.heap.size 9 1 v k (strs (l.take k)) ∧ Kp (fun _ => False) w wr ∧ (k = 0 → v = .slice none 0 0)

set_option maxRecDepth 100000 in
set_option maxHeartbeats 1000000 in
theorem dictNew_ok (A : Option Addr) (cap0 : Nat) (l : List ByteArray) (w : World) (hr : RdS w A (strs l)) (hd : DictOk l) (hb : bytesN l ≤ 1000) :
    Calls Try.prog 77 #[.slice A l.length cap0] w fun e w' => ∃ g, e = .returned (.tuple #[.pointer (some ⟨g, 0, none⟩), .nilIface]) ∧ w.heap.size ≤ g ∧ DICT w' g l ∧ Kp (fun _ => False) w w' := by
  have HR := Lib.hid hr
  have hfew := hd.few
  have HD := Lib.hid hd
  clear hr hd
  obtain ⟨g, HG0⟩ : ∃ g, Hid (g = w.heap.size) := ⟨_, Lib.hid rfl⟩
  have hg : w.heap.size ≤ g := by rw [HG0.out]; exact Nat.le_refl _
  go_enter Try.func77, Try.ntmps77
  go_wp2_with fail
  have HN : Hid (NewRel l g 0 (.slice none 0 0) w (w.alloc (.cells #[.slice none 0 0] 146))) := by
    refine ⟨by rw [HG0.out]; exact blk_new w _, by simpa [strs] using World.ownsRow_nil _ _ _ _, (Kp.refl _ w).alloc _, fun _ => rfl⟩
  rw [← HG0.out]
  go_loopw [5, 17] (fun y i wr => ∃ k : Nat, k ≤ l.length ∧ i = .int .i64 k ∧ ∃ n : Nat, y = .int .i64 n ∧ Hid (n = bytesN (l.take k)) ∧ ∃ v, Hid (NewRel l g k v w wr)) (fun _ i _ => l.length - (intOf i).toNat)
  case atStart => exact ⟨0, Nat.zero_le _, rfl, 0, rfl, by show _ = _; simp [bytesN], _, HN⟩
  case round =>
    obtain ⟨k, hk, rfl, n, rfl, HY, v, HV⟩ := hrel
    have hn0 : n ≤ 1000 := by rw [HY.out]; exact Nat.le_trans (bytesN_take l k) hb
    by_cases hlt : k < l.length
    · obtain ⟨s, b, o, hz, rfl, hc⟩ := HR.out.atS hlt
      have hc := HV.out.2.2.1.cell hc (fun h => h)
      have hc0 : wr.cell? ⟨g, 0, none⟩ = some v := (blk_cell HV.out.1 0).trans rfl
      have hf0 : wr.frozen? ⟨g, 0, none⟩ = false := blk_free HV.out.1 0
      have HT : l.take (k + 1) = l.take k ++ [s] := by rw [List.take_add_one, hz]; rfl
      have hm := List.mem_of_getElem? hz
      have hs1 := HD.out.pos s hm
      have hs40 := HD.out.short s hm
      have hns : s.size + n ≤ 1000 := by
        have := bytesN_take l (k + 1)
        rw [HT, bytesN_snoc, ← HY.out] at this
        omega
      have hnot : s ∉ l.take k := by
        intro hmem
        obtain ⟨j, hj, hs⟩ := List.mem_take_iff_getElem.1 hmem
        obtain ⟨hil, his⟩ := List.getElem?_eq_some_iff.1 hz
        have := (List.getElem_inj (h₀ := show j < l.length by omega) (h₁ := hil) HD.out.nodup).1 (hs.trans his.symm)
        omega
      have HT := Lib.hid HT
      have HF := Lib.hid (findI_none hnot)
      have hse : (s.toList == []) = false := by
        rw [beq_eq_false_iff_ne, ByteArray.toList_eq]
        intro e
        have : s.data.toList.length = s.size := Array.length_toList
        rw [e] at this
        simp at this
        omega
      clear hnot hm hz
      obtain ⟨A1, cap1, rfl⟩ := own_slice HV.out.2.1
      go_wp2_with fail
      have hlk : (l.take k).length = k := by rw [List.length_take]; omega
      have hcon := containsS_any A1 cap1 (l.take k) s wr (RdS.own HV.out.2.1) (by omega)
      rw [HF.out, hlk] at hcon
      refine hcon.mono ?_
      clear hcon
      rintro e w' ⟨rfl, rfl⟩
      go_wp2_with fail
      go_region_law (first
          | (refine step_call (by rfl) 101 _ Try.func101 (by kernel_rfl) (by kernel_rfl) _ _ (by rfl) [.string s] (by rfl) ?_; refine (strClone_any s _ (by omega)).mono ?_; rintro e w1 ⟨rfl, hk1⟩; refine ⟨_, rfl, ?_⟩; have hb1 : w1.heap[g]? = _ := hk1.blk HV.out.1 (fun h => h); have hc1 : w1.cell? ⟨g, 0, none⟩ = some (.slice A1 k cap1) := (blk_cell hb1 0).trans rfl; have hc1a : (w1.alloc (.cells #[.string s] 9)).cell? ⟨g, 0, none⟩ = some (.slice A1 k cap1) := (blk_cell (blk_old hb1 _) 0).trans rfl; have HK1 : Hid (Kp (fun _ => False) w w1) := HV.out.2.2.1.drew.trans hk1 (fun _ h => .inl h); have HO1 : Hid (w1.ownsRow w.heap.size 9 1 (.slice A1 k cap1) k (strs (l.take k))) := hk1.own HV.out.2.1 (fun _ _ h => h); have HB1 := Lib.hid hb1; clear hk1 hb1)
          | (refine sapp1 w.heap.size (by rfl) _ _ 45 9 (.string ⟨#[]⟩) 16 (by rfl) Try.underlying45 info_str rfl (by decide) (.slice A1 k cap1) k _ _ (by rfl) _ (by rfl) rfl ((HO1.out.alloc _).drew) (blk_new_drew w1 _) (Nat.le_trans HK1.out.size (le_alloc_drew _ _)) (by omega) ?_; intro v2 w2 hown hgrow hfresh; obtain ⟨A2, c2, rfl⟩ := own_slice hown; have hb2 : w2.heap[g]? = _ := (hgrow.block g (Nat.lt_of_lt_of_le (blk_lt HB1.out) (le_alloc_drew _ _)) (fun h => own_ne HO1.out HB1.out (by decide) h.symm)).trans (blk_old HB1.out _); have hc2 : w2.cell? ⟨g, 0, none⟩ = some (.slice A1 k cap1) := (blk_cell hb2 0).trans rfl; have hf2 : w2.frozen? ⟨g, 0, none⟩ = false := blk_free hb2 0; have HB2 := Lib.hid hb2; have HO2 := Lib.hid hown; have HG2 := Lib.hid hgrow; clear hb2 hown hgrow hfresh))
      all_goals
        go_wp2_with fail
        refine ⟨⟨k + 1, by omega, by simp, n + s.size, by simp, by show _ = _; rw [HT.out, bytesN_snoc, HY.out], .slice A2 (k + 1) c2, ?_, ?_, ?_, fun h => by omega⟩, by simp only [intOf]; omega⟩
        · simpa using blk_set HB2.out 0 (.slice A2 (k + 1) c2)
        · rw [HT.out]
          have hset : Kp (fun i => i = g) w2 (w2.setCell ⟨g, 0, none⟩ (.slice A2 (k + 1) c2)) := (Kp.refl (fun i => i = g) w2).setCell (.inl rfl) _
          have := hset.own HO2.out (fun j hj e => own_ne HO2.out HB2.out (by decide) (e ▸ hj))
          simpa [strs] using this
        · exact ((HK1.out.alloc _).grown HG2.out (fun i hi => .inr (own_lt HO1.out hi).1)).setCell (.inr hg) _
    · go_wp2_with fail
      go_ret2
      obtain rfl : k = l.length := by omega
      obtain ⟨h1, h2, h3, h4⟩ := HV.out
      rw [List.take_length] at h2
      obtain ⟨A1, cap1, rfl⟩ := own_slice h2
      refine ⟨g, rfl, hg, ⟨A1, cap1, h1, RdS.own h2, ?_⟩, h3⟩
      rintro rfl
      have h5 := h4 rfl
      injection h5 with h5 h6 h7
      exact ⟨h5, h7⟩

end Go.Proofs.Ytbhjckhhmcfpfaa

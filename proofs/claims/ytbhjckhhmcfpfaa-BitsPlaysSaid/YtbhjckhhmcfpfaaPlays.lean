/- BitsPlays: the walk of the law's own function. -/
import Derived.Test.YtbhjckhhmcfpfaaBitsAlive
import Derived.Deep.CutRange
import Derived.Deep.DeepCutAuto
import Derived.Deep.CutBlock
namespace Go.Proofs.Ytbhjckhhmcfpfaa
open Go.RowKit
set_option linter.unusedVariables false
set_option linter.unusedSimpArgs false

/-- The bits of bytes. -/
def bitsL (b : ByteArray) (n : Nat) : List Int := (List.range n).map (bitI b)
theorem bitsL_len (b : ByteArray) (n : Nat) : (bitsL b n).length = n := by simp [bitsL]
theorem bitsL_succ (b : ByteArray) (n : Nat) : bitsL b (n + 1) = bitsL b n ++ [bitI b n] := by
  unfold bitsL; rw [List.range_succ, List.map_append]; rfl

/-- A slice of calls that came in: kind, V, N. -/
def RdOps (w : World) (A : Option Addr) (ops : List (Int × Int × Int)) : Prop :=
  ∀ j x, ops[j]? = some x → ∃ b o, A = some ⟨b, o, none⟩ ∧ w.cell? ⟨b, o + j * 3, none⟩ = some (.int .i64 x.1) ∧ w.cell? ⟨b, o + j * 3 + 1, none⟩ = some (.int .i64 x.2.1) ∧ w.cell? ⟨b, o + j * 3 + 2, none⟩ = some (.int .i64 x.2.2)
theorem RdOps.kp {w w1 : World} {A : Option Addr} {ops : List (Int × Int × Int)} (h : RdOps w A ops) (k : Kp (fun _ => False) w w1) : RdOps w1 A ops := by
  intro j x hj
  obtain ⟨b, o, rfl, h1, h2, h3⟩ := h j x hj
  exact ⟨b, o, rfl, k.cell h1 (fun h => h), k.cell h2 (fun h => h), k.cell h3 (fun h => h)⟩

theorem info_int : (Try.prog.info? 3).map (fun i => (i.zero, i.size, i.bytes)) = some (some (.int .i64 0), 1, 8) := by kernel_rfl

theorem and_bit (b : ByteArray) (k j : Nat) (hk : k < b.size) (hj : j < 8) : bits .and .i64 (wrap64 (b[k]'hk).toNat / 2 ^ (7 - j)) 1 = bitI b (8 * k + j) := by
  have hb : (b.data.toList.getD k 0) = b[k]'hk := by
    rw [List.getD_eq_getElem?_getD, List.getElem?_eq_getElem (by simp only [Array.length_toList]; exact hk)]; rfl
  have hv : (b[k]'hk).toNat < 256 := UInt8.toNat_lt _
  unfold bitI
  rw [show (8 * k + j) / 8 = k by omega, show (8 * k + j) % 8 = j by omega, hb]
  generalize (b[k]'hk).toNat = v at *
  have hw : wrap64 (v : Int) = v := by unfold wrap64; omega
  have hd : (v : Int) / 2 ^ (7 - j) = ((v / 2 ^ (7 - j) : Nat) : Int) := by simp
  have hl : v / 2 ^ (7 - j) ≤ v := Nat.div_le_self _ _
  rw [hw, hd]
  generalize v / 2 ^ (7 - j) = u at *
  rw [and_one _ (by omega) (by omega)]
  omega

/-- The list of bits while it is made. -/
def InRel (b : ByteArray) (n : Nat) (v : Value) (w wr : World) : Prop := wr.ownsRow w.heap.size 3 1 v n (ints .i64 (bitsL b n)) ∧ Kp (fun _ => False) w wr

/-- What stands between two rounds. -/
structure St (b : ByteArray) (w W : World) (gw gr k a : Nat) (v0 : Value) (L : List Int) (A : Option Addr) (c : Nat) (v7 : Value) : Prop where
  ha : a ≤ 8 * b.size
  hc : 8 * b.size - a ≤ c
  hm : c ≤ 9223372036854775807
  rd : RdS W A (ints .i64 ((bitsL b (8 * b.size)).drop a))
  sep : ∀ x, A = some x → (∃ cur f, W.heap[x.block]? = some (.cells cur 3 f)) ∧ v7.ownBlock ≠ some x.block
  wr : WR W w.heap.size gw v0 L
  rr : RD W gr b a
  own : W.ownsRow w.heap.size 3 1 v7 L.length (ints .i64 L)
  hL : L.length ≤ 32 * k
  h01 : ∀ x, x ∈ L → x = 0 ∨ x = 1
  kp : Kp (fun _ => False) w W
def PL (b : ByteArray) (w wr : World) (gw gr k : Nat) (v7 v8 : Value) : Prop := ∃ (a : Nat) (v0 : Value) (L : List Int) (A : Option Addr) (c : Nat),
  v8 = .slice A (8 * b.size - a) c ∧ St b w wr gw gr k a v0 L A c v7
theorem St.kpF {b : ByteArray} {w W W' : World} {gw gr k a : Nat} {v0 : Value} {L : List Int} {A : Option Addr} {c : Nat} {v7 : Value} (h : St b w W gw gr k a v0 L A c v7) (hk : Kp (fun _ => False) W W') : St b w W' gw gr k a v0 L A c v7 :=
  ⟨h.ha, h.hc, h.hm, h.rd.kp hk (fun _ _ _ h => h), fun x hA => by
    obtain ⟨⟨cur, f, h1⟩, h2⟩ := h.sep x hA
    exact ⟨⟨cur, f, hk.blk h1 (fun h => h)⟩, h2⟩, h.wr.kp hk (fun h => h) (fun _ _ h => h), hk.blk h.rr (fun h => h), hk.own h.own (fun _ _ h => h), h.hL, h.h01, h.kp.trans hk (fun _ h => .inl h)⟩
theorem St.next {b : ByteArray} {w W : World} {gw gr k a : Nat} {v0 : Value} {L : List Int} {A : Option Addr} {c : Nat} {v7 : Value} (h : St b w W gw gr k a v0 L A c v7) : St b w W gw gr (k + 1) a v0 L A c v7 :=
  { h with hL := by have := h.hL; omega }
theorem St.drewN {b : ByteArray} {w W : World} {gw gr k a : Nat} {v0 : Value} {L : List Int} {A : Option Addr} {c : Nat} {v7 : Value} (h : St b w W gw gr k a v0 L A c v7) (m : Nat) : St b w (W.drewN m) gw gr k a v0 L A c v7 :=
  h.kpF ((Kp.refl _ _).drewN m)
theorem drop_all (b : ByteArray) (n m : Nat) (h : n ≤ m) : (bitsL b n).drop m = [] := List.drop_eq_nil_of_le (by rw [bitsL_len]; exact h)

theorem InS.adv {wr : World} {A : Option Addr} {l : List Int} {m : Nat} (h : RdS wr A (ints .i64 l)) : RdS wr (A.map (·.add m)) (ints .i64 (l.drop m)) := by
  intro j x hj
  have hj2 : (ints .i64 l)[m + j]? = some x := by simpa [ints] using hj
  obtain ⟨bb, o, rfl, hc⟩ := h (m + j) x hj2
  refine ⟨bb, o + m, ?_, by rw [show o + m + j = o + (m + j) by omega]; exact hc⟩
  have : (⟨bb, o, none⟩ : Addr).add m = ⟨bb, o + m, none⟩ := by unfold Addr.add; split <;> simp_all
  simp [this]
theorem St.adv {b : ByteArray} {w W W' : World} {gw gr k a m : Nat} {v0 : Value} {L : List Int} {A : Option Addr} {c : Nat} {v7 : Value} (h : St b w W gw gr k a v0 L A c v7) (hk : Kp (· = gr) W W') (hr : RD W' gr b (a + m : Nat)) (hm : m ≤ 8 * b.size - a) (hgr : w.heap.size ≤ gr) :
    PL b w W' gw gr (k + 1) v7 (.slice (A.map (fun x => x.add m)) (8 * b.size - a - m) (c - m)) ∧ (m = c → PL b w W' gw gr (k + 1) v7 (.slice A (8 * b.size - a - m) 0)) := by
  have hne : ∀ bb cur f, W.heap[bb]? = some (.cells cur 3 f) → ¬ bb = gr := fun bb cur f h1 => blk_ne h1 h.rr (by decide)
  have hwr : WR W' w.heap.size gw v0 L := h.wr.kp hk (fun e => blk_ne h.wr.1 h.rr (by decide) e) (fun i hi e => by
    obtain ⟨cur, hh⟩ := own_blk h.wr.2.2.2 hi
    exact blk_ne hh h.rr (by decide) e)
  have how : W'.ownsRow w.heap.size 3 1 v7 L.length (ints .i64 L) := hk.own h.own (fun i hi e => by
    obtain ⟨cur, hh⟩ := own_blk h.own hi
    exact blk_ne hh h.rr (by decide) e)
  have hrd : RdS W' A (ints .i64 ((bitsL b (8 * b.size)).drop a)) := h.rd.kp hk (fun bb o hA e => by
    obtain ⟨⟨cur, f, h1⟩, _⟩ := h.sep _ hA
    exact hne bb cur f h1 e)
  have hsep : ∀ x, A = some x → (∃ cur f, W'.heap[x.block]? = some (.cells cur 3 f)) ∧ v7.ownBlock ≠ some x.block := fun x hA => by
    obtain ⟨⟨cur, f, h1⟩, h2⟩ := h.sep x hA
    exact ⟨⟨cur, f, hk.blk h1 (hne _ cur f h1)⟩, h2⟩
  have hkp : Kp (fun _ => False) w W' := h.kp.trans hk (fun i e => .inr (by omega))
  have hLk : L.length ≤ 32 * (k + 1) := by have := h.hL; omega
  have := h.ha
  have := h.hc
  have := h.hm
  refine ⟨⟨a + m, v0, L, A.map (fun x => x.add m), c - m, by rw [Nat.sub_sub], by omega, by omega, by omega, ?_, ?_, hwr, hr, how, hLk, h.h01, hkp⟩,
    fun hc => ⟨a + m, v0, L, A, 0, by rw [Nat.sub_sub], by omega, by omega, by omega, ?_, hsep, hwr, hr, how, hLk, h.h01, hkp⟩⟩
  · have := InS.adv (m := m) hrd
    rwa [List.drop_drop] at this
  · intro x hA
    obtain ⟨y, hy, rfl⟩ := Option.map_eq_some_iff.1 hA
    have : (y.add m).block = y.block := by unfold Addr.add; split <;> rfl
    rw [this]
    exact hsep y hy
  · rw [drop_all _ _ _ (by omega)]
    intro j x hj
    simp [ints] at hj
theorem and_bit2 (u r : Nat) (hu : u < 9223372036854775808) : bits .and .i64 ((u : Int) / 2 ^ r) 1 = ((u / 2 ^ r % 2 : Nat) : Int) := by
  have hd : (u : Int) / 2 ^ r = ((u / 2 ^ r : Nat) : Int) := by simp
  have hl : u / 2 ^ r ≤ u := Nat.div_le_self _ _
  rw [hd]
  generalize u / 2 ^ r = q at *
  rw [and_one _ (by omega) (by omega)]
  omega
/-- Of the bits that are left, the first j: few, and all 0. -/
def restJ (b : ByteArray) (a j : Nat) : Bool := decide (8 * b.size - a < 8 ∧ pk (from_ b a) j = 0)
theorem restJ_succ (b : ByteArray) (a j : Nat) : restJ b a (j + 1) = (restJ b a j && (from_ b a j == 0)) := by
  have h1 := pk_le (from_ b a) (from_le b a) j
  have h2 := from_le b a j
  have hs : pk (from_ b a) (j + 1) = 2 * pk (from_ b a) j + from_ b a j := rfl
  unfold restJ
  rw [hs, Bool.eq_iff_iff]
  simp
  omega
/-- A call's N may be; the bits that it would take. -/
def goodB (n : Int) : Bool := decide (0 ≤ n ∧ n ≤ 32)
def valB (b : ByteArray) (a : Nat) (n : Int) : Int := if 0 ≤ n ∧ n ≤ 32 then pk (from_ b a) n.toNat else 0

set_option maxRecDepth 100000 in
set_option maxHeartbeats 16000000 in
theorem plays_any (A : Option Addr) (cap0 : Nat) (ops : List (Int × Int × Int)) (b : ByteArray) (w : World) (hr : RdOps w A ops) (hb : b.size ≤ 140737488351232) :
    Calls Try.prog 3 #[.slice A ops.length cap0, .string b] w fun e w' => e = .returned (.bool true) ∧ Kp (fun _ => False) w w' := by
  have HR := Lib.hid hr
  clear hr
  by_cases h1 : 100 < ops.length
  · go_enter Try.func3, Try.ntmps3
    go_wp2_with fail
    refine (bitsAlive _).mono ?_
    rintro e W1 ⟨rfl, hk⟩
    have HK := Lib.hid hk
    clear hk
    go_wp2_with fail
    go_ret
    exact ⟨rfl, HK.out⟩
  by_cases h2 : 200 < b.size
  · go_enter Try.func3, Try.ntmps3
    go_wp2_with fail
    refine (bitsAlive _).mono ?_
    rintro e W1 ⟨rfl, hk⟩
    have HK := Lib.hid hk
    clear hk
    go_wp2_with fail
    go_ret
    exact ⟨rfl, HK.out⟩
  go_enter Try.func3, Try.ntmps3
  go_wp2_with fail
  refine (bitsAlive _).mono ?_
  rintro e W1 ⟨rfl, hk⟩
  have HK := Lib.hid hk
  clear hk
  go_wp2_with fail
  refine (newReader_any b _).mono ?_
  rintro e w' ⟨rfl, rfl⟩
  go_upto_block 0 with fail
  obtain ⟨W2, hW2⟩ : ∃ W2, W2 = (W1.alloc (.cells #[.slice none 0 0, .int .i64 0] 27)).alloc (.cells #[.string b, .int .i64 0] 76) := ⟨_, rfl⟩
  rw [← hW2]
  have hw2 : WR W2 w.heap.size W1.heap.size (.slice none 0 0) [] := by
    rw [hW2]; exact (WR.new W1 w.heap.size HK.out.size).kp ((Kp.refl (fun _ => False) _).alloc _) (fun h => h) (fun _ _ h => h)
  have hr2 : RD W2 (W1.heap.size + 1) b 0 := by
    rw [hW2]
    have := RD.new (W1.alloc (.cells #[.slice none 0 0, .int .i64 0] 27)) b
    simpa using this
  have hk2 : Kp (fun _ => False) w W2 := by rw [hW2]; exact (HK.out.alloc _).alloc _
  have hne : w.heap.size ≤ W1.heap.size := HK.out.size
  obtain ⟨gw, HGW⟩ : ∃ gw, Hid (gw = W1.heap.size) := ⟨_, Lib.hid rfl⟩
  obtain ⟨gr, HGR⟩ : ∃ gr, Hid (gr = W1.heap.size + 1) := ⟨_, Lib.hid rfl⟩
  rw [← HGW.out] at hw2
  rw [← HGR.out] at hr2
  rw [← HGR.out, ← HGW.out]
  have hgw : w.heap.size ≤ gw := by rw [HGW.out]; exact hne
  have hgr : w.heap.size ≤ gr := by rw [HGR.out]; omega
  have HW2 := Lib.hid hw2
  have HR2 := Lib.hid hr2
  have HK2 := Lib.hid hk2
  clear hw2 hr2 hk2 hW2 hne HK
  go_cut [8] (fun v8 wx => ∃ A1 c1, v8 = .slice A1 (8 * b.size) c1 ∧ InRel b (8 * b.size) (.slice A1 (8 * b.size) c1) W2 wx)
  case first =>
    --[build
    as_aux_lemma =>
      clear HK2 HW2 HR2 HR
      go_wp2_with fail
      go_loopw [8, 9] (fun v i wr => ∃ k : Nat, k ≤ b.size ∧ i = .int .i64 k ∧ InRel b (8 * k) v W2 wr) (fun _ i _ => b.size - (intOf i).toNat)
      case atStart => exact ⟨0, Nat.zero_le _, rfl, World.ownsRow_nil _ _ _ _, Kp.refl _ _⟩
      case round =>
        obtain ⟨k, hk, rfl, hrl⟩ := hrel
        have HI := Lib.hid hrl
        clear hrl
        by_cases hlt : k < b.size
        · go_wp2_with fail
          obtain ⟨wo, rfl⟩ : ∃ wo : World, wo = wr := ⟨_, rfl⟩
          go_loopw [8, 10] (fun v i wr => ∃ j : Nat, j ≤ 8 ∧ i = .int .i64 (7 - (j : Int)) ∧ InRel b (8 * k + j) v W2 wr) (fun _ i _ => (intOf i + 1).toNat)
          case atStart => exact ⟨0, Nat.zero_le _, rfl, HI.out⟩
          case round =>
            obtain ⟨j, hj, rfl, ho, hkp⟩ := hrel
            have HO := Lib.hid ho
            have HKP := Lib.hid hkp
            clear ho hkp
            by_cases hj8 : j < 8
            · have hj0 : ¬ (7 - (j : Int) < 0) := by omega
              have HB := Lib.hid (and_bit b k j hlt hj8)
              obtain ⟨A1, cap1, rfl⟩ := own_slice HO.out
              go_wp2_with (at_builtin; refine app1 W2.heap.size rfl _ _ 30 3 (.int .i64 0) 8 rfl Try.underlying30 info_int rfl (by decide) (.slice A1 (8 * k + j) cap1) _ _ _ rfl rfl rfl HO.out HKP.out.size (by omega) ?_; intro v2 w2 hown hgrow hfresh; have HO2 := Lib.hid hown; have HG := Lib.hid hgrow; clear hown hgrow hfresh)
              refine ⟨⟨j + 1, by omega, congrArg (Value.int .i64) (by omega), ?_, HKP.out.grown HG.out (fun k hk => .inr (own_lt HO.out hk).1)⟩, by simp only [intOf]; omega⟩
              have := HO2.out
              rw [HB.out] at this
              rw [show 8 * k + (j + 1) = 8 * k + j + 1 by omega, bitsL_succ]
              simpa [ints] using this
            · have hj0 : (7 - (j : Int) < 0) := by omega
              go_wp2_with fail
              obtain rfl : j = 8 := by omega
              refine ⟨⟨k + 1, by omega, by simp, ?_, HKP.out⟩, by simp only [intOf]; omega⟩
              rw [show 8 * (k + 1) = 8 * k + 8 by omega]
              exact HO.out
        · go_wp2_with fail
          go_meet
          obtain rfl : k = b.size := by omega
          obtain ⟨A1, c1, rfl⟩ := own_slice HI.out.1
          exact ⟨A1, c1, rfl, HI.out⟩
    --]build
  case rest =>
    obtain ⟨A1, c1, rfl, ho, hkp⟩ := hcut
    have hPL : PL b w wc gw gr 0 (.slice none 0 0) (.slice A1 (8 * b.size) c1) := by
      refine ⟨0, .slice none 0 0, [], A1, c1, by simp, Nat.zero_le _, ?_, ?_, ?_, ?_, HW2.out.kp hkp (fun h => h) (fun _ _ h => h), hkp.blk HR2.out (fun h => h), World.ownsRow_nil _ _ _ _, by simp, by simp, HK2.out.trans hkp (fun _ h => .inl h)⟩
      · rcases ho.2 with ⟨h1, h2⟩ | ⟨g, cap, cur, h1, _, _, h2, _⟩
        · injection h1 with h3 h4 h5; omega
        · injection h1 with h3 h4 h5; omega
      · rcases ho.2 with ⟨h1, h2⟩ | ⟨g, cap, cur, h1, _, _, h2, h3, _⟩
        · injection h1 with h3 h4 h5; omega
        · simp only [maxLen] at h3; injection h1 with h3 h4 h5; omega
      · rw [List.drop_zero]; exact RdS.own ho
      · rintro x rfl
        obtain ⟨cur, hh⟩ := own_blk ho (k := x.block) rfl
        exact ⟨⟨cur, _, hh⟩, by simp [Value.ownBlock]⟩
    have HP := Lib.hid hPL
    clear hPL ho hkp
    go_wp2_with fail
    go_loopw [7, 8, 70] (fun v7 v8 i wr => ∃ k : Nat, k ≤ ops.length ∧ i = .int .i64 k ∧ PL b w wr gw gr k v7 v8) (fun _ _ i _ => ops.length - (intOf i).toNat)
    case atStart => exact ⟨0, Nat.zero_le _, rfl, HP.out⟩
    case round =>
      obtain ⟨k, hk, rfl, hpl⟩ := hrel
      by_cases hlt : k < ops.length
      · obtain ⟨⟨kd, v, n⟩, hx⟩ : ∃ x, ops[k]? = some x := ⟨_, List.getElem?_eq_getElem hlt⟩
        obtain ⟨o7, rfl⟩ : ∃ o7 : Value, o7 = u7 := ⟨_, rfl⟩
        obtain ⟨a, v0, L, A8, c8, rfl, hst⟩ := hpl
        obtain ⟨bo, oo, rfl, d1, d2, d3⟩ := HR.out k _ hx
        have q1 := hst.kp.cell d1 (fun h => h)
        have q2 := hst.kp.cell d2 (fun h => h)
        have q3 := hst.kp.cell d3 (fun h => h)
        clear d1 d2 d3
        have ha := hst.ha
        have hc8 := hst.hc
        have hc8m := hst.hm
        have HST := Lib.hid hst
        have HX := Lib.hid hx
        clear hst hx
        simp only [] at q1 q2 q3
        go_upto_region 17 with fail
        obtain ⟨W5, hW5⟩ : ∃ W5, W5 = wr.alloc (.cells #[.int .i64 kd, .int .i64 v, .int .i64 n] 33) := ⟨_, rfl⟩
        rw [← hW5]
        have hk5 : Kp (fun _ => False) wr W5 := by rw [hW5]; exact (Kp.refl (fun _ => False) _).alloc _
        have hb5 : W5.heap[wr.heap.size]? = some (.cells #[.int .i64 kd, .int .i64 v, .int .i64 n] 33 (0, 0)) := by rw [hW5]; exact blk_new _ _
        obtain ⟨go, HGO⟩ : ∃ go, Hid (go = wr.heap.size) := ⟨_, Lib.hid rfl⟩
        rw [← HGO.out] at hb5
        rw [← HGO.out]
        have p1 : W5.cell? ⟨go, 0, none⟩ = some (.int .i64 kd) := (blk_cell hb5 0).trans rfl
        have p2 : W5.cell? ⟨go, 1, none⟩ = some (.int .i64 v) := (blk_cell hb5 1).trans rfl
        have p3 : W5.cell? ⟨go, 2, none⟩ = some (.int .i64 n) := (blk_cell hb5 2).trans rfl
        have HB5 := Lib.hid hb5
        have HK5 := Lib.hid hk5
        clear hW5 hb5 hk5 q1 q2 q3
        go_cut [13] (fun g wx => ∃ gd, g = .bool gd ∧ Hid (gd = goodB n) ∧ W5 = wx)
        case first =>
          by_cases hn0 : n < 0
          · go_wp2_with fail
            go_meet
            exact ⟨_, rfl, by show _ = goodB n; simp [goodB]; omega, rfl⟩
          · go_wp2_with fail
            go_meet
            exact ⟨_, rfl, by show _ = goodB n; simp [goodB]; omega, rfl⟩
        case rest =>
          obtain ⟨gd, rfl, HGD, rfl⟩ := hcut
          go_upto_block 6 with fail
          go_cut [14] (fun x wx => ∃ y, x = .int .i64 y ∧ Hid (y = valB b a n) ∧ W5 = wx)
          case first =>
            --[val
            as_aux_lemma =>
              by_cases hg : 0 ≤ n ∧ n ≤ 32
              · obtain ⟨m, rfl⟩ := Int.eq_ofNat_of_zero_le hg.1
                obtain rfl : gd = true := by rw [HGD.out]; simp [goodB]; omega
                have hm32 : m ≤ 32 := by omega
                have HST5 := Lib.hid (HST.out.kpF HK5.out)
                have hv : Hid (valB b a m = pk (from_ b a) m) := by show valB b a m = _; unfold valB; rw [if_pos hg]; rfl
                clear hg
                go_wp2_with fail
                go_loopw [14, 15] (fun x i wr => ∃ j : Nat, j ≤ m ∧ i = .int .i64 j ∧ x = .int .i64 (pk (from_ b a) j) ∧ W5 = wr) (fun _ i _ => m - (intOf i).toNat)
                case atStart => exact ⟨0, Nat.zero_le _, rfl, rfl, rfl⟩
                case round =>
                  obtain ⟨j, hj, rfl, rfl, rfl⟩ := hrel
                  have hp := pk_le32 (from_ b a) (from_le b a) j (by omega)
                  have hlj := from_le b a j
                  have hs : pk (from_ b a) (j + 1) = 2 * pk (from_ b a) j + from_ b a j := rfl
                  have HS := Lib.hid hs
                  clear hs
                  by_cases hjm : j < m
                  · by_cases hin : j < 8 * b.size - a
                    · have hin' : (j : Int) < (8 * b.size - a : Nat) := by omega
                      have hfj : from_ b a j = bitI b (a + j) := by unfold from_; rw [if_pos (by omega)]
                      obtain ⟨b8, o8, rfl, hc⟩ := HST5.out.rd j (.int .i64 (bitI b (a + j))) (by simp [ints, bitsL, hin])
                      rw [← hfj] at hc
                      clear hfj
                      generalize pk (from_ b a) j = P at *
                      generalize from_ b a j = X at *
                      go_wp2_with fail
                      refine ⟨⟨j + 1, by omega, by simp, congrArg (Value.int .i64) (by rw [HS.out]; omega), trivial⟩, by simp only [intOf]; omega⟩
                    · have hin' : ¬ (j : Int) < (8 * b.size - a : Nat) := by omega
                      have hfj : from_ b a j = 0 := by unfold from_; rw [if_neg (by omega)]
                      rw [hfj] at HS
                      clear hfj
                      generalize pk (from_ b a) j = P at *
                      go_wp2_with fail
                      refine ⟨⟨j + 1, by omega, by simp, congrArg (Value.int .i64) (by rw [HS.out]; omega), trivial⟩, by simp only [intOf]; omega⟩
                  · have hjm' : ¬ (j : Int) < m := by omega
                    go_wp2_with fail
                    go_meet
                    obtain rfl : j = m := by omega
                    exact ⟨_, rfl, hv.out.symm, rfl⟩
              · obtain rfl : gd = false := by rw [HGD.out]; simp [goodB]; omega
                go_wp2_with fail
                go_loopw [14, 15] (fun x i wr => x = .int .i64 0 ∧ i = .int .i64 0 ∧ W5 = wr) (fun _ i _ => 0)
                case atStart => exact ⟨rfl, rfl, rfl⟩
                case round =>
                  obtain ⟨rfl, rfl, rfl⟩ := hrel
                  go_wp2_with fail
                  go_meet
                  exact ⟨0, rfl, by show _ = valB b a n; unfold valB; rw [if_neg hg], rfl⟩
            --]val
          case rest =>
            obtain ⟨y, rfl, HY, rfl⟩ := hcut
            go_upto_block 8 with fail
            go_cut [7, 8, 13] (fun v7 v8 _ wx => ∃ q7, q7 = v7 ∧ PL b w wx gw gr (k + 1) v7 v8)
            case first =>
              have HST5 := Lib.hid (HST.out.kpF HK5.out)
              by_cases e1 : kd = 1
              · skip
                --[e1
                as_aux_lemma =>
                  subst e1
                  by_cases hm : (0 ≤ n ∧ n ≤ 32) ∧ 0 ≤ v ∧ v < 2 ^ n.toNat
                  · obtain ⟨hg, hv0, hv1⟩ := hm
                    obtain ⟨m, rfl⟩ := Int.eq_ofNat_of_zero_le hg.1
                    obtain ⟨x, rfl⟩ := Int.eq_ofNat_of_zero_le hv0
                    obtain rfl : gd = true := by rw [HGD.out]; simp [goodB]; omega
                    have hm32 : m ≤ 32 := by omega
                    have hx : x < 2 ^ m := by
                      have e : ((2 ^ m : Nat) : Int) = (2 : Int) ^ m := by simp
                      have : ((m : Int).toNat) = m := by simp
                      rw [this, ← e] at hv1
                      omega
                    have hx63 : x < 9223372036854775808 := by
                      have h := Nat.pow_le_pow_right (n := 2) (by omega) hm32
                      have e2 : 2 ^ 32 = 4294967296 := by decide
                      omega
                    have hsh : (x : Int) < wrap64 (2 ^ m) := by
                      rw [pow_wrap m hm32]
                      have e : ((2 ^ m : Nat) : Int) = (2 : Int) ^ m := by simp
                      rw [← e]; omega
                    clear hg hv1
                    have hLb := HST5.out.hL
                    have HX32 := Lib.hid hx
                    clear hx
                    go_wp2_with fail
                    refine (wput_ok w.heap.size gw v0 L x m W5 HST5.out.wr hm32 HX32.out (by omega)).mono ?_
                    rintro e W6 ⟨rfl, v1, hw6, hk6, hf6⟩
                    have hng : ¬ (go = gw ∨ v0.ownBlock = some go) := fun h => h.elim (fun h => blk_ne HB5.out HST5.out.wr.1 (by decide) h) (fun h => by
                      obtain ⟨cur, hh⟩ := own_blk HST5.out.wr.2.2.2 h
                      exact blk_ne HB5.out hh (by decide) rfl)
                    have hb6 := hk6.blk HB5.out hng
                    have ho6 : W6.ownsRow w.heap.size 3 1 o7 L.length (ints .i64 L) := hk6.own HST5.out.own (fun i hi h => h.elim (fun h => by
                      obtain ⟨cur, hh⟩ := own_blk HST5.out.own hi
                      exact blk_ne hh HST5.out.wr.1 (by decide) h) (fun h => by
                      obtain ⟨cur, hh⟩ := own_blk HST5.out.own hi
                      obtain ⟨cur2, hh2⟩ := own_blk HST5.out.wr.2.2.2 h
                      exact blk_ne hh hh2 (by decide) rfl))
                    have HW6 := Lib.hid hw6
                    have HK6 := Lib.hid hk6
                    have HB6 := Lib.hid hb6
                    have HO6 := Lib.hid ho6
                    have p2b : W6.cell? ⟨go, 1, none⟩ = some (.int .i64 x) := (blk_cell hb6 1).trans rfl
                    have p3b : W6.cell? ⟨go, 2, none⟩ = some (.int .i64 m) := (blk_cell hb6 2).trans rfl
                    clear hw6 hk6 hf6 hb6 ho6 hng p1 p2 p3
                    go_wp2_with fail
                    go_loopw [7, 17] (fun q i wr => ∃ j : Nat, j ≤ m ∧ i = .int .i64 ((m : Int) - 1 - j) ∧ wr.ownsRow w.heap.size 3 1 q (L.length + j) (ints .i64 (L ++ bitsOf x m j)) ∧ Kp (fun k => o7.ownBlock = some k) W6 wr ∧ (∀ k, q.ownBlock = some k → o7.ownBlock = some k ∨ W6.heap.size ≤ k)) (fun _ i _ => (intOf i + 1).toNat)
                    case atStart => exact ⟨0, Nat.zero_le _, by simp, by simpa [bitsOf] using HO6.out, Kp.refl _ _, fun k h => .inl h⟩
                    case round =>
                      obtain ⟨j, hj, rfl, ho, hkp, hfr⟩ := hrel
                      have HO := Lib.hid ho
                      have HKP := Lib.hid hkp
                      have HFR := Lib.hid hfr
                      have hb7 := hkp.blk HB6.out (fun h => by
                        obtain ⟨cur, hh⟩ := own_blk HO6.out h
                        exact blk_ne HB6.out hh (by decide) rfl)
                      have p2c : wr.cell? ⟨go, 1, none⟩ = some (.int .i64 x) := (blk_cell hb7 1).trans rfl
                      clear ho hkp hfr hb7 p2b p3b
                      by_cases hjm : j < m
                      · have hj0 : ¬ ((m : Int) - 1 - j < 0) := by omega
                        have HB := Lib.hid (and_bit2 x (m - 1 - j) hx63)
                        obtain ⟨A1, cap1, rfl⟩ := own_slice HO.out
                        go_wp2_with (at_builtin; refine app1 w.heap.size rfl _ _ 30 3 (.int .i64 0) 8 rfl Try.underlying30 info_int rfl (by decide) (.slice A1 (L.length + j) cap1) _ _ _ rfl rfl rfl HO.out (Nat.le_trans HST5.out.kp.size (Nat.le_trans HK6.out.size HKP.out.size)) (by omega) ?_; intro v2 w2 hown hgrow hfresh; have HO2 := Lib.hid hown; have HG := Lib.hid hgrow; have HF2 := Lib.hid hfresh; clear hown hgrow hfresh)
                        refine ⟨⟨j + 1, by omega, congrArg (Value.int .i64) (by omega), ?_, HKP.out.grown HG.out (fun k hk => HFR.out k hk), fun k hk => (HF2.out k hk).elim (fun h => HFR.out k h) (fun h => .inr (Nat.le_trans HKP.out.size h))⟩, by simp only [intOf]; omega⟩
                        have := HO2.out
                        rw [HB.out] at this
                        rw [bitsOf_succ, ← Nat.add_assoc]
                        simpa [ints] using this
                      · have hj0 : ((m : Int) - 1 - j < 0) := by omega
                        go_wp2_with fail
                        go_meet
                        obtain rfl : j = m := by omega
                        refine ⟨_, rfl, a, v1, L ++ bitsOf x j j, A8, c8, rfl, ?_⟩
                        have hkk : Kp (fun i => (i = gw ∨ v0.ownBlock = some i) ∨ o7.ownBlock = some i) W5 wr := (HK6.out.mono (fun i h => .inl h)).trans HKP.out (fun i h => .inl (.inr h))
                        have hnb : ∀ z cur f, W5.heap[z]? = some (.cells cur 3 f) → o7.ownBlock ≠ some z → ¬ ((z = gw ∨ v0.ownBlock = some z) ∨ o7.ownBlock = some z) := fun z cur f h1 h2 h => h.elim (fun h => h.elim (fun h => blk_ne h1 HST5.out.wr.1 (by decide) h) (fun h => by
                          obtain ⟨cur2, hh2⟩ := own_blk HST5.out.wr.2.2.2 h
                          exact blk_ne h1 hh2 (by decide) rfl)) h2
                        refine ⟨ha, hc8, hc8m, HST5.out.rd.kp hkk (fun bb o hA => ?_), fun z hA => ?_, HW6.out.kp HKP.out (fun h => ?_) (fun i hi h => ?_), hkk.blk HST5.out.rr (fun h => ?_), ?_, ?_, ?_, ?_⟩
                        · obtain ⟨⟨cur, f, h1⟩, h2⟩ := HST5.out.sep _ hA
                          exact hnb _ _ _ h1 h2
                        · obtain ⟨⟨cur, f, h1⟩, h2⟩ := HST5.out.sep z hA
                          refine ⟨⟨cur, f, hkk.blk h1 (hnb _ _ _ h1 h2)⟩, fun h => ?_⟩
                          rcases HFR.out _ h with h3 | h3
                          · exact h2 h3
                          · have := blk_lt h1
                            have := HK6.out.size
                            omega
                        · obtain ⟨cur, hh⟩ := own_blk HO6.out h
                          exact blk_ne hh HW6.out.1 (by decide) rfl
                        · obtain ⟨cur, hh⟩ := own_blk HO6.out h
                          obtain ⟨cur2, hh2⟩ := own_blk HW6.out.2.2.2 hi
                          exact blk_ne hh hh2 (by decide) rfl
                        · rcases h with (h | h) | h
                          · exact blk_ne HST5.out.rr HST5.out.wr.1 (by decide) h
                          · obtain ⟨cur, hh⟩ := own_blk HST5.out.wr.2.2.2 h
                            exact blk_ne HST5.out.rr hh (by decide) rfl
                          · obtain ⟨cur, hh⟩ := own_blk HST5.out.own h
                            exact blk_ne HST5.out.rr hh (by decide) rfl
                        · rw [List.length_append, bitsOf_len]; exact HO.out
                        · rw [List.length_append, bitsOf_len]; omega
                        · intro z hz
                          rcases List.mem_append.1 hz with hz | hz
                          · exact HST5.out.h01 z hz
                          · simp only [bitsOf, List.mem_map] at hz
                            obtain ⟨t, _, rfl⟩ := hz
                            have := Nat.mod_two_eq_zero_or_one (x / 2 ^ (j - 1 - t))
                            omega
                        · refine HST5.out.kp.trans hkk (fun i h => .inr ?_)
                          rcases h with (h | h) | h
                          · omega
                          · exact (own_lt HST5.out.wr.2.2.2 h).1
                          · exact (own_lt HST5.out.own h).1
                  · have hbad : n < 0 ∨ 32 < n ∨ v < 0 ∨ (0 ≤ n ∧ n ≤ 32 ∧ 2 ^ n.toNat ≤ v) := by omega
                    have HPUT := Lib.hid (wput_bad ⟨gw, 0, none⟩ v n W5 hbad)
                    clear hbad
                    by_cases hg : 0 ≤ n ∧ n ≤ 32
                    · obtain rfl : gd = true := by rw [HGD.out]; simp [goodB]; omega
                      obtain ⟨m, rfl⟩ := Int.eq_ofNat_of_zero_le hg.1
                      have hm32 : m ≤ 32 := by omega
                      by_cases hv0 : v < 0
                      · clear hm hg
                        go_wp2_with fail
                        refine HPUT.out.mono ?_
                        rintro e w' ⟨rfl, m2, rfl⟩
                        go_wp2_with fail
                        go_loopw [7, 17] (fun q i wr => q = o7 ∧ wr = W5.drewN m2) (fun _ _ _ => 0)
                        case atStart => exact ⟨rfl, rfl⟩
                        case round =>
                          obtain ⟨rfl, rfl⟩ := hrel
                          go_wp2_with fail
                          go_meet
                          exact ⟨_, rfl, a, v0, L, A8, c8, rfl, (HST5.out.drewN _).next⟩
                      · have hsh : ¬ v < wrap64 (2 ^ m) := by
                          rw [pow_wrap m hm32]
                          have : ((m : Int).toNat) = m := by simp
                          rw [this] at hm
                          omega
                        clear hm hg
                        go_wp2_with fail
                        refine HPUT.out.mono ?_
                        rintro e w' ⟨rfl, m2, rfl⟩
                        go_wp2_with fail
                        go_loopw [7, 17] (fun q i wr => q = o7 ∧ wr = W5.drewN m2) (fun _ _ _ => 0)
                        case atStart => exact ⟨rfl, rfl⟩
                        case round =>
                          obtain ⟨rfl, rfl⟩ := hrel
                          go_wp2_with fail
                          go_meet
                          exact ⟨_, rfl, a, v0, L, A8, c8, rfl, (HST5.out.drewN _).next⟩
                    · obtain rfl : gd = false := by rw [HGD.out]; simp [goodB]; omega
                      clear hm hg
                      go_wp2_with fail
                      refine HPUT.out.mono ?_
                      rintro e w' ⟨rfl, m2, rfl⟩
                      go_wp2_with fail
                      go_loopw [7, 17] (fun q i wr => q = o7 ∧ wr = W5.drewN m2) (fun _ _ _ => 0)
                      case atStart => exact ⟨rfl, rfl⟩
                      case round =>
                        obtain ⟨rfl, rfl⟩ := hrel
                        go_wp2_with fail
                        go_meet
                        exact ⟨_, rfl, a, v0, L, A8, c8, rfl, (HST5.out.drewN _).next⟩
                --]e1
              by_cases e2 : kd = 2
              · skip
                --[e2
                as_aux_lemma =>
                  subst e2
                  by_cases hg : 0 ≤ n ∧ n ≤ 32
                  · obtain ⟨m, rfl⟩ := Int.eq_ofNat_of_zero_le hg.1
                    obtain rfl : gd = true := by rw [HGD.out]; simp [goodB]; omega
                    by_cases hle : m ≤ 8 * b.size - a
                    · have hle' : (m : Int) ≤ (8 * b.size - a : Nat) := by omega
                      have hget := get_ok gr b a m W5 HST5.out.rr hb (by omega) (by omega)
                      rw [show pk (from_ b a) m = y by rw [HY.out]; unfold valB; rw [if_pos hg]; rfl] at hget
                      go_wp2_with fail
                      refine hget.mono ?_
                      clear hget
                      rintro e W6 ⟨rfl, hr6, hk6⟩
                      have HADV := Lib.hid (HST5.out.adv hk6 hr6 hle hgr)
                      have p3b := hk6.cell p3 (fun h => blk_ne HB5.out HST5.out.rr (by decide) h)
                      clear hr6 hk6 p3
                      go_wp2_with fail
                      all_goals
                        go_meet
                        first | exact ⟨_, rfl, HADV.out.1⟩ | exact ⟨_, rfl, HADV.out.2 (by omega)⟩
                    · have hle' : ¬ (m : Int) ≤ (8 * b.size - a : Nat) := by omega
                      have hget := get_bad gr b a m W5 HST5.out.rr hb ha (by omega) (by omega)
                      go_wp2_with fail
                      refine hget.mono ?_
                      clear hget
                      rintro e w' ⟨rfl, m2, rfl⟩
                      go_wp2_with fail
                      go_meet
                      exact ⟨_, rfl, a, v0, L, A8, c8, rfl, (HST5.out.drewN _).next⟩
                  · obtain rfl : gd = false := by rw [HGD.out]; simp [goodB]; omega
                    have hget : Calls Try.prog 10 #[.pointer (some ⟨gr, 0, none⟩), .int .i64 n] W5 fun e w' => e = .returned (.tuple #[.int .i64 0, .bool false]) ∧ Dr W5 w' := by
                      by_cases h32 : 32 < n
                      · exact get_big _ n W5 h32
                      · exact get_bad gr b a n W5 HST5.out.rr hb ha (by omega) (by omega)
                    have HGET := Lib.hid hget
                    clear hget
                    go_wp2_with fail
                    refine HGET.out.mono ?_
                    rintro e w' ⟨rfl, m2, rfl⟩
                    go_wp2_with fail
                    go_meet
                    exact ⟨_, rfl, a, v0, L, A8, c8, rfl, (HST5.out.drewN _).next⟩
                --]e2
              by_cases e3 : kd = 3
              · skip
                --[e3
                as_aux_lemma =>
                  subst e3
                  have hpeek : ∀ W, RD W gr b a → Calls Try.prog 11 #[.pointer (some ⟨gr, 0, none⟩), .int .i64 n] W fun e w' => e = .returned (.int .i64 y) ∧ Dr W w' := by
                    intro W hW
                    by_cases hg : 0 ≤ n ∧ n ≤ 32
                    · obtain ⟨m, rfl⟩ := Int.eq_ofNat_of_zero_le hg.1
                      rw [show y = pk (from_ b a) m by rw [HY.out]; unfold valB; rw [if_pos hg]; rfl]
                      exact peek_any gr b a m W hW hb ha (by omega)
                    · rw [show y = 0 by rw [HY.out]; unfold valB; rw [if_neg hg]]
                      exact peek_bad _ n W (by omega)
                  have HPEEK := Lib.hid hpeek
                  clear hpeek
                  go_wp2_with fail
                  refine (HPEEK.out W5 HST5.out.rr).mono ?_
                  rintro e w' ⟨rfl, m2, rfl⟩
                  go_wp2_with fail
                  go_meet
                  exact ⟨_, rfl, a, v0, L, A8, c8, rfl, (HST5.out.drewN _).next⟩
                --]e3
              by_cases e4 : kd = 4
              · skip
                --[e4
                as_aux_lemma =>
                  subst e4
                  by_cases hg : 0 ≤ n ∧ n ≤ (8 * b.size - a : Nat)
                  · obtain ⟨m, rfl⟩ := Int.eq_ofNat_of_zero_le hg.1
                    obtain ⟨-, hle'⟩ := hg
                    have hle : m ≤ 8 * b.size - a := by omega
                    go_wp2_with fail
                    refine (skip_ok gr b a m W5 HST5.out.rr hb (by omega)).mono ?_
                    rintro e W6 ⟨rfl, hr6, hk6⟩
                    have HADV := Lib.hid (HST5.out.adv hk6 hr6 hle hgr)
                    have p3b := hk6.cell p3 (fun h => blk_ne HB5.out HST5.out.rr (by decide) h)
                    clear hr6 hk6 p3
                    go_wp2_with fail
                    all_goals
                      go_meet
                      first | exact ⟨_, rfl, HADV.out.1⟩ | exact ⟨_, rfl, HADV.out.2 (by omega)⟩
                  · by_cases hn0 : n < 0
                    · go_wp2_with fail
                      refine (skip_bad gr b a n W5 HST5.out.rr hb ha (by omega)).mono ?_
                      rintro e w' ⟨rfl, m2, rfl⟩
                      go_wp2_with fail
                      go_meet
                      exact ⟨_, rfl, a, v0, L, A8, c8, rfl, (HST5.out.drewN _).next⟩
                    · have hle' : ¬ n ≤ (8 * b.size - a : Nat) := by omega
                      clear hg
                      go_wp2_with fail
                      refine (skip_bad gr b a n W5 HST5.out.rr hb ha (by omega)).mono ?_
                      rintro e w' ⟨rfl, m2, rfl⟩
                      go_wp2_with fail
                      go_meet
                      exact ⟨_, rfl, a, v0, L, A8, c8, rfl, (HST5.out.drewN _).next⟩
                --]e4
              · skip
                --[e5
                as_aux_lemma =>
                  have k1 : (kd == 1) = false := by simp [e1]
                  have k2 : (kd == 2) = false := by simp [e2]
                  have k3 : (kd == 3) = false := by simp [e3]
                  have k4 : (kd == 4) = false := by simp [e4]
                  go_wp2_with fail
                  go_meet
                  exact ⟨_, rfl, a, v0, L, A8, c8, rfl, HST5.out.next⟩
                --]e5
            case rest =>
              --[tail
              as_aux_lemma =>
                obtain ⟨q7, rfl, a2, v2, L2, A2, c2, rfl, hst2⟩ := hcut
                have HST2 := Lib.hid hst2
                have ha2 := hst2.ha
                clear hst2 HST p1 p2 p3 HB5 HK5
                obtain ⟨A7, c7, rfl⟩ := own_slice HST2.out.own
                go_upto_block 11 with fail
                go_cut [21, 222] (fun x _ wx => x = .bool (restB b a2) ∧ wc = wx)
                case first =>
                  obtain ⟨r0, HR0⟩ : ∃ r0 : Bool, Hid (r0 = decide (8 * b.size - a2 < 8)) := ⟨_, Lib.hid rfl⟩
                  have hr0 : decide (((8 * b.size - a2 : Nat) : Int) < 8) = r0 := by rw [HR0.out]; simp; omega
                  rw [hr0]
                  clear hr0
                  go_wp2_with fail
                  go_loopw [21, 225] (fun x i wr => ∃ (j : Nat) (r : Bool), j ≤ 8 * b.size - a2 ∧ i = .int .i64 j ∧ x = .bool r ∧ Hid (r = restJ b a2 j) ∧ wc = wr) (fun _ i _ => 8 * b.size - a2 - (intOf i).toNat)
                  case atStart => exact ⟨0, r0, Nat.zero_le _, rfl, rfl, by show r0 = _; rw [HR0.out]; simp [restJ, pk], rfl⟩
                  case round =>
                    obtain ⟨j, r, hj, rfl, rfl, HRJ, rfl⟩ := hrel
                    by_cases hjm : j < 8 * b.size - a2
                    · have hjm' : (j : Int) < (8 * b.size - a2 : Nat) := by omega
                      have hfj : from_ b a2 j = bitI b (a2 + j) := by unfold from_; rw [if_pos (by omega)]
                      obtain ⟨b8, o8, rfl, hc⟩ := HST2.out.rd j (.int .i64 (bitI b (a2 + j))) (by simp [ints, bitsL, hjm])
                      have HS := Lib.hid (restJ_succ b a2 j)
                      rw [← hfj] at hc
                      clear hfj
                      generalize from_ b a2 j = X at *
                      cases r with
                      | true =>
                        go_wp2_with fail
                        refine ⟨⟨j + 1, _, by omega, by simp, rfl, by show _ = restJ b a2 (j + 1); rw [HS.out, ← HRJ.out]; simp, trivial⟩, by simp only [intOf]; omega⟩
                      | false =>
                        go_wp2_with fail
                        refine ⟨⟨j + 1, _, by omega, by simp, rfl, by show _ = restJ b a2 (j + 1); rw [HS.out, ← HRJ.out]; simp, trivial⟩, by simp only [intOf]; omega⟩
                    · have hjm' : ¬ (j : Int) < (8 * b.size - a2 : Nat) := by omega
                      go_wp2_with fail
                      go_meet
                      obtain rfl : j = 8 * b.size - a2 := by omega
                      exact ⟨by rw [HRJ.out]; rfl, rfl⟩
                case rest =>
                  obtain ⟨rfl, rfl⟩ := hcut
                  go_wp2_with fail
                  refine (wlen_any _ _ _ _ wc HST2.out.wr).mono ?_
                  rintro e w' ⟨rfl, m1, rfl⟩
                  go_wp2_with fail
                  refine (wbytes_any _ _ _ _ (wc.drewN m1) (HST2.out.drewN m1).wr).mono ?_
                  rintro e w' ⟨rfl, m2, rfl⟩
                  go_wp2_with fail
                  have hpack := pack_any A7 c7 L2 (wc.drewN (m1 + m2)) (RdS.own (HST2.out.drewN (m1 + m2)).own) HST2.out.h01 (by have := HST2.out.hL; omega)
                  refine hpack.mono ?_
                  clear hpack
                  rintro e W9 ⟨rfl, hk9⟩
                  have HST9 := Lib.hid ((HST2.out.drewN (m1 + m2)).kpF hk9)
                  clear hk9
                  go_wp2_with fail
                  have hleft := left_any gr b a2 W9 HST9.out.rr hb (by omega) (by omega)
                  rw [show (8 * (b.size : Int) - a2) = ((8 * b.size - a2 : Nat) : Int) by omega] at hleft
                  refine hleft.mono ?_
                  clear hleft
                  rintro e w' ⟨rfl, m3, rfl⟩
                  go_wp2_with fail
                  refine (rest_any gr b a2 (W9.drewN m3) (HST9.out.drewN m3).rr hb ha2).mono ?_
                  rintro e w' ⟨rfl, m4, rfl⟩
                  go_wp2_with fail
                  refine ⟨⟨k + 1, by omega, by simp, a2, v2, L2, A2, c2, rfl, HST9.out.drewN _⟩, by simp only [intOf]; omega⟩
              --]tail
      · --[exit
        as_aux_lemma =>
          have hlt' : ¬ (k : Int) < ops.length := by omega
          obtain ⟨a, v0, L, A8, c8, rfl, hst⟩ := hpl
          have HST := Lib.hid hst
          clear hst
          go_wp2_with fail
          have h0 := get_nil 0 wr (by decide)
          rw [show ((0 : Nat) : Int) = 0 from rfl] at h0
          refine h0.mono ?_
          clear h0
          rintro e w' ⟨rfl, m1, rfl⟩
          go_wp2_with fail
          refine (wput_nil 0 0 _).mono ?_
          rintro e w' ⟨rfl, m2, rfl⟩
          go_wp2_with fail
          refine (wlen_nil _).mono ?_
          rintro e w' ⟨rfl, m3, rfl⟩
          go_wp2_with fail
          refine (wbytes_nil _).mono ?_
          rintro e w' ⟨rfl, m4, rfl⟩
          go_wp2_with fail
          have h0 := peek_nil 3 (wr.drewN (m1 + m2 + m3 + m4)) (by decide)
          rw [show ((3 : Nat) : Int) = 3 from rfl] at h0
          refine h0.mono ?_
          clear h0
          rintro e w' ⟨rfl, m5, rfl⟩
          go_wp2_with fail
          refine (skip_nil 0 _).mono ?_
          rintro e w' ⟨rfl, m6, rfl⟩
          go_wp2_with fail
          refine (left_nil _).mono ?_
          rintro e w' ⟨rfl, m7, rfl⟩
          go_wp2_with fail
          refine (rest_nil _).mono ?_
          rintro e w' ⟨rfl, m8, rfl⟩
          go_wp2_with fail
          go_ret
          exact ⟨rfl, HST.out.kp.drewN _⟩
        --]exit

end Go.Proofs.Ytbhjckhhmcfpfaa

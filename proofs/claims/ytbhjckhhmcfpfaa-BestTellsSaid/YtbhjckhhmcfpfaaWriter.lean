/- The bit writer's functions (bits.Writer): what each call returns and does. Conditions: the writer lies at a block of its own, its bytes in a row of its own. -/
import Derived.Test.YtbhjckhhmcfpfaaBase
import Derived.Test.YtbhjckhhmcfpfaaReader
namespace Go.Proofs.Ytbhjckhhmcfpfaa
open Go.RowKit
set_option linter.unusedVariables false
set_option linter.unusedSimpArgs false

/-- One bit more behind n bits that are packed. -/
def pstep (bs : List Int) (n : Nat) (x : Int) : List Int :=
  let c := if n % 8 = 0 then bs ++ [0] else bs
  c.set (n / 8) (bits .or .u8 (c.getD (n / 8) 0) (x * 2 ^ (7 - n % 8)))
def packFrom (bs : List Int) (n : Nat) : List Int → List Int
  | [] => bs
  | x :: l => packFrom (pstep bs n x) (n + 1) l
/-- Bits as bytes, 0s at the end. -/
def pack (l : List Int) : List Int := packFrom [] 0 l
theorem packFrom_snoc (l : List Int) (x : Int) : ∀ (bs : List Int) (n : Nat), packFrom bs n (l ++ [x]) = pstep (packFrom bs n l) (n + l.length) x := by
  induction l with
  | nil => intro bs n; rfl
  | cons y l ih =>
    intro bs n
    show packFrom (pstep bs n y) (n + 1) (l ++ [x]) = _
    rw [ih]
    show pstep (packFrom (pstep bs n y) (n + 1) l) (n + 1 + l.length) x = pstep (packFrom (pstep bs n y) (n + 1) l) (n + (l.length + 1)) x
    rw [show n + 1 + l.length = n + (l.length + 1) by omega]
theorem pack_snoc (l : List Int) (x : Int) : pack (l ++ [x]) = pstep (pack l) l.length x := by
  unfold pack
  rw [packFrom_snoc, Nat.zero_add]
theorem packFrom_len (l : List Int) : ∀ (bs : List Int) (n : Nat), bs.length = (n + 7) / 8 → (packFrom bs n l).length = (n + l.length + 7) / 8 := by
  induction l with
  | nil => intro bs n h; simpa [packFrom] using h
  | cons y l ih =>
    intro bs n h
    show (packFrom (pstep bs n y) (n + 1) l).length = _
    rw [ih]
    · simp only [List.length_cons]; congr 1; omega
    · unfold pstep
      simp only [List.length_set]
      split
      · simp only [List.length_append, List.length_cons, List.length_nil]; omega
      · omega
theorem pack_len (l : List Int) : (pack l).length = (l.length + 7) / 8 := by
  have := packFrom_len l [] 0 (by simp)
  simpa [pack] using this

/-- The writer at block g: its row v, and all bits that were put. -/
def WR (w : World) (base g : Nat) (v : Value) (l : List Int) : Prop :=
  w.heap[g]? = some (.cells #[v, .int .i64 l.length] 27 (0, 0)) ∧ base ≤ g ∧ base ≤ w.heap.size ∧ w.ownsRow base 5 1 v (pack l).length (ints .u8 (pack l))

theorem WR.c0 {w : World} {base g : Nat} {v : Value} {l : List Int} (h : WR w base g v l) : w.cell? ⟨g, 0, none⟩ = some v := (blk_cell h.1 0).trans rfl
theorem WR.c1 {w : World} {base g : Nat} {v : Value} {l : List Int} (h : WR w base g v l) : w.cell? ⟨g, 1, none⟩ = some (.int .i64 l.length) := (blk_cell h.1 1).trans rfl
theorem WR.kp {S : Nat → Prop} {w w1 : World} {base g : Nat} {v : Value} {l : List Int} (h : WR w base g v l) (k : Kp S w w1) (h1 : ¬ S g) (h2 : ∀ k, v.ownBlock = some k → ¬ S k) : WR w1 base g v l :=
  ⟨k.blk h.1 h1, h.2.1, Nat.le_trans h.2.2.1 k.size, k.own h.2.2.2 h2⟩
theorem WR.drewN {w : World} {base g : Nat} {v : Value} {l : List Int} (h : WR w base g v l) (n : Nat) : WR (w.drewN n) base g v l := h
theorem WR.ne {w : World} {base g : Nat} {v : Value} {l : List Int} (h : WR w base g v l) : v.ownBlock ≠ some g := own_ne h.2.2.2 h.1 (by decide)
theorem WR.slice {w : World} {base g : Nat} {v : Value} {l : List Int} (h : WR w base g v l) : ∃ A c, v = .slice A (pack l).length c := own_slice h.2.2.2

theorem pow_wrap (m : Nat) (hm : m ≤ 32) : wrap64 (2 ^ m) = 2 ^ m := by
  have h := Nat.pow_le_pow_right (n := 2) (by omega) hm
  have e2 : 2 ^ 32 = 4294967296 := by decide
  have e : ((2 ^ m : Nat) : Int) = (2 : Int) ^ m := by simp
  have h0 := Nat.two_pow_pos m
  rw [← e]
  generalize 2 ^ m = p at *
  unfold wrap64
  omega
theorem info_u8 : (Try.prog.info? 5).map (fun i => (i.zero, i.size, i.bytes)) = some (some (.int .u8 0), 1, 1) := by kernel_rfl

set_option maxHeartbeats 400000 in
theorem wlen_any (base g : Nat) (v : Value) (l : List Int) (w : World) (h : WR w base g v l) :
    Calls Try.prog 13 #[.pointer (some ⟨g, 0, none⟩)] w fun e w' => e = .returned (.int .i64 l.length) ∧ Dr w w' := by
  have c1 := h.c1
  clear h
  go_enter Try.func13, Try.ntmps13
  go_wp2_with fail
  go_ret
  exact ⟨rfl, ⟨0, rfl⟩⟩
set_option maxHeartbeats 400000 in
theorem wlen_nil (w : World) : Calls Try.prog 13 #[.pointer none] w fun e w' => e = .returned (.int .i64 0) ∧ Dr w w' := by
  go_enter Try.func13, Try.ntmps13
  go_wp2_with fail
  go_ret
  exact ⟨rfl, ⟨0, rfl⟩⟩
set_option maxHeartbeats 400000 in
theorem wbytes_any (base g : Nat) (v : Value) (l : List Int) (w : World) (h : WR w base g v l) :
    Calls Try.prog 14 #[.pointer (some ⟨g, 0, none⟩)] w fun e w' => e = .returned (.string (strOfNums (pack l))) ∧ Dr w w' := by
  have c0 := h.c0
  have hcv := own_string (P := Try.prog) (src := 25) (dst := 9) Try.underlying25 Try.underlying5 Try.underlying9 h.2.2.2
  clear h
  go_enter Try.func14, Try.ntmps14
  go_wp2_with fail
  go_ret
  exact ⟨rfl, ⟨0, rfl⟩⟩
set_option maxHeartbeats 400000 in
theorem wbytes_nil (w : World) : Calls Try.prog 14 #[.pointer none] w fun e w' => e = .returned (.string ⟨#[]⟩) ∧ Dr w w' := by
  go_enter Try.func14, Try.ntmps14
  go_wp2_with fail
  go_ret
  exact ⟨rfl, ⟨0, rfl⟩⟩
set_option maxHeartbeats 400000 in
theorem wput_nil (v n : Int) (w : World) : Calls Try.prog 9 #[.pointer none, .int .i64 v, .int .i64 n] w fun e w' => e = .returned (.bool false) ∧ Dr w w' := by
  go_enter Try.func9, Try.ntmps9
  go_wp2_with fail
  go_ret
  exact ⟨rfl, ⟨0, rfl⟩⟩
set_option maxHeartbeats 400000 in
theorem wput_bad (p : Addr) (v n : Int) (w : World) (h : n < 0 ∨ 32 < n ∨ v < 0 ∨ (0 ≤ n ∧ n ≤ 32 ∧ 2 ^ n.toNat ≤ v)) :
    Calls Try.prog 9 #[.pointer (some p), .int .i64 v, .int .i64 n] w fun e w' => e = .returned (.bool false) ∧ Dr w w' := by
  by_cases h1 : n < 0
  · go_enter Try.func9, Try.ntmps9
    go_wp2_with fail
    go_ret
    exact ⟨rfl, ⟨0, rfl⟩⟩
  by_cases h2 : 32 < n
  · go_enter Try.func9, Try.ntmps9
    go_wp2_with fail
    go_ret
    exact ⟨rfl, ⟨0, rfl⟩⟩
  by_cases h3 : v < 0
  · go_enter Try.func9, Try.ntmps9
    go_wp2_with fail
    go_ret
    exact ⟨rfl, ⟨0, rfl⟩⟩
  have h4 : 2 ^ n.toNat ≤ v := by omega
  clear h
  obtain ⟨m, rfl⟩ := Int.eq_ofNat_of_zero_le (Int.not_lt.1 h1)
  have h5 : wrap64 (2 ^ m) ≤ v := by
    have hw := pow_wrap m (by omega)
    rw [hw]; simpa using h4
  clear h4
  go_enter Try.func9, Try.ntmps9
  go_wp2_with fail
  go_ret
  exact ⟨rfl, ⟨0, rfl⟩⟩

/-- The first j of the n bits of v. -/
def bitsOf (v : Nat) (n j : Nat) : List Int := (List.range j).map fun t => ((v / 2 ^ (n - 1 - t) % 2 : Nat) : Int)
theorem bitsOf_succ (v n j : Nat) : bitsOf v n (j + 1) = bitsOf v n j ++ [((v / 2 ^ (n - 1 - j) % 2 : Nat) : Int)] := by
  unfold bitsOf; rw [List.range_succ, List.map_append]; rfl
theorem bitsOf_len (v n j : Nat) : (bitsOf v n j).length = j := by simp [bitsOf]

theorem put_byte (b : Int) (v r q : Nat) (hv : v < 9223372036854775808) :
    bits .or .u8 b (bits .and .i64 ((v : Int) / 2 ^ r) 1 % 256 * 2 ^ (7 - q) % 256) = bits .or .u8 b (((v / 2 ^ r % 2 : Nat) : Int) * 2 ^ (7 - q)) := by
  have hd : (v : Int) / 2 ^ r = ((v / 2 ^ r : Nat) : Int) := by simp
  have hl : v / 2 ^ r ≤ v := Nat.div_le_self _ _
  rw [hd]
  generalize v / 2 ^ r = u at *
  rw [and_one _ (by omega) (by omega)]
  have h1 := Nat.pow_le_pow_right (n := 2) (by omega) (show 7 - q ≤ 7 by omega)
  have e2 : 2 ^ 7 = 128 := by decide
  have e : ((2 ^ (7 - q) : Nat) : Int) = (2 : Int) ^ (7 - q) := by simp
  rw [← e]
  generalize 2 ^ (7 - q) = p at *
  congr 1
  have : (u : Int) % 2 % 256 = ((u % 2 : Nat) : Int) := by omega
  rw [this]
  rcases Nat.mod_two_eq_zero_or_one u with h | h <;> rw [h] <;> simp <;> omega
def PutRel (base g : Nat) (v0 : Value) (l : List Int) (v n j : Nat) (w wr : World) : Prop :=
  ∃ v1, WR wr base g v1 (l ++ bitsOf v n j) ∧ Kp (fun k => k = g ∨ v0.ownBlock = some k) w wr ∧ (∀ k, v1.ownBlock = some k → v0.ownBlock = some k ∨ w.heap.size ≤ k)

set_option maxRecDepth 100000 in
set_option maxHeartbeats 1000000 in
theorem wput_ok (base g : Nat) (v0 : Value) (l : List Int) (v n : Nat) (w : World) (h : WR w base g v0 l) (hn : n ≤ 32) (hv : v < 2 ^ n) (hl : l.length + n ≤ 1000000000) :
    Calls Try.prog 9 #[.pointer (some ⟨g, 0, none⟩), .int .i64 v, .int .i64 n] w fun e w' => e = .returned (.bool true) ∧ PutRel base g v0 l v n n w w' := by
  have h1 : ¬ (n : Int) < 0 := by omega
  have h2 : ¬ (n : Int) > 32 := by omega
  have h3 : ¬ (v : Int) < 0 := by omega
  have HH := Lib.hid h
  clear h
  have hv' : ¬ wrap64 (2 ^ n) ≤ v := by
    rw [pow_wrap n hn]
    have e : ((2 ^ n : Nat) : Int) = (2 : Int) ^ n := by simp
    rw [← e]; omega
  go_enter Try.func9, Try.ntmps9
  go_wp2_with fail
  go_loopw [7] (fun i wr => ∃ j : Nat, j ≤ n ∧ i = .int .i64 ((n : Int) - 1 - j) ∧ PutRel base g v0 l v n j w wr) (fun i _ => (intOf i + 1).toNat)
  case atStart => exact ⟨0, Nat.zero_le _, by simp, v0, by simpa [bitsOf] using HH.out, Kp.refl _ _, fun k hk => .inl hk⟩
  case round =>
    obtain ⟨j, hj, rfl, v1, hw, hk, hf⟩ := hrel
    have c0 := hw.c0
    have c1 := hw.c1
    have hlen : (l ++ bitsOf v n j).length ≤ 1000000000 := by rw [List.length_append, bitsOf_len]; omega
    obtain ⟨L, hL⟩ : ∃ L, L = l ++ bitsOf v n j := ⟨_, rfl⟩
    rw [← hL] at c1 hlen hw
    have HL := Lib.hid hL
    have HW := Lib.hid hw
    have HK := Lib.hid hk
    have HF := Lib.hid hf
    clear hL hw hk hf
    by_cases hlt : j < n
    · have hlt' : ¬ ((n : Int) - 1 - j < 0) := by omega
      have HN := Lib.hid HW.out.ne
      obtain ⟨A1, cap1, rfl⟩ := HW.out.slice
      by_cases h8 : L.length % 8 = 0
      case' pos =>
        have H8 := Lib.hid h8
        have hb8 : ((L.length : Int) % 8 == 0) = true := by simp; omega
        clear h8
        go_wp2_with (at_builtin; refine app1 base rfl _ _ 25 5 (.int .u8 0) 1 rfl Try.underlying25 info_u8 rfl (by decide) (.slice A1 (pack L).length cap1) _ _ (.int .u8 0) rfl rfl rfl HW.out.2.2.2 HW.out.2.2.1 (by rw [pack_len]; omega) ?_; intro v2 w2 hown hgrow hfresh; have hb2 := (hgrow.block g (blk_lt HW.out.1) (fun e => HN.out e.symm)).trans HW.out.1; have d1 : w2.cell? ⟨g, 0, none⟩ = some (.slice A1 (pack L).length cap1) := (blk_cell hb2 0).trans rfl; have d2 : w2.frozen? ⟨g, 0, none⟩ = false := blk_free hb2 0; obtain ⟨g2, cap2, rfl, hg2, hg2l, hcap2, hcap3⟩ := own_form hown (by omega); have HO2 := Lib.hid hown; have HG := Lib.hid hgrow; have HF2 := Lib.hid hfresh; have HB2 := Lib.hid hb2; clear hown hgrow hfresh hb2)
        obtain ⟨W3, hW3⟩ : ∃ W3, W3 = w2.setCell ⟨g, 0, none⟩ (.slice (some ⟨g2, 0, none⟩) ((pack L).length + 1) cap2) := ⟨_, rfl⟩
        rw [← hW3]
        have hne : g2 ≠ g := fun e => own_ne HO2.out HB2.out (by decide) (by simp [Value.ownBlock, e])
        obtain ⟨c, HC⟩ : ∃ c, Hid (c = pack L ++ [0]) := ⟨_, Lib.hid rfl⟩
        have hb3 : W3.heap[g]? = some (.cells #[.slice (some ⟨g2, 0, none⟩) c.length cap2, .int .i64 L.length] 27 (0, 0)) := by
          rw [hW3, HC.out]
          have := blk_set HB2.out 0 (.slice (some ⟨g2, 0, none⟩) ((pack L).length + 1) cap2)
          simpa using this
        have ho3 : W3.ownsRow base 5 1 (.slice (some ⟨g2, 0, none⟩) c.length cap2) c.length (ints .u8 c) := by
          have h1 : Kp (· = g) w2 W3 := by rw [hW3]; exact (Kp.refl (· = g) w2).setCell (.inl rfl) _
          have h2 := h1.own HO2.out (fun k hk => by simp [Value.ownBlock] at hk; omega)
          rw [HC.out]
          simpa [ints] using h2
        have hk3 : Kp (fun k => k = g ∨ v0.ownBlock = some k) w W3 := by
          rw [hW3]
          exact (HK.out.grown HG.out (fun k hk => (HF.out k hk).elim (fun h => .inl (.inr h)) .inr)).setCell (.inl (.inl rfl)) _
        have hf3 : ∀ k, (Value.slice (some ⟨g2, 0, none⟩) c.length cap2).ownBlock = some k → v0.ownBlock = some k ∨ w.heap.size ≤ k := fun k hk =>
          (HF2.out k hk).elim (fun h => HF.out k h) (fun h => .inr (by have := HK.out.size; omega))
        have hps : pack (L ++ [((v / 2 ^ (n - 1 - j) % 2 : Nat) : Int)]) = c.set (L.length / 8) (bits .or .u8 (c.getD (L.length / 8) 0) (((v / 2 ^ (n - 1 - j) % 2 : Nat) : Int) * 2 ^ (7 - L.length % 8))) := by
          rw [pack_snoc]; unfold pstep; rw [if_pos H8.out, HC.out]
        have hcl : L.length / 8 < c.length := by rw [HC.out]; simp [pack_len]; have := H8.out; omega
        have hce : (pack L).length + 1 = c.length := by rw [HC.out]; simp
        rw [hce]
        have HK3 := Lib.hid hk3
        have HF3 := Lib.hid hf3
        have HP3 := Lib.hid hps
        have HB3 := Lib.hid hb3
        have HO3 := Lib.hid ho3
        clear hk3 hf3 hps hb3 ho3 hce hW3 d1 d2
      case' neg =>
        have H8 := Lib.hid h8
        have hb8 : ((L.length : Int) % 8 == 0) = false := by simp; omega
        have hpl := pack_len L
        obtain ⟨g2, cap2, hsl, hg2, hg2l, hcap2, hcap3⟩ := own_form HW.out.2.2.2 (by omega)
        rw [hsl] at HW HN HF c0
        clear h8 hsl
        go_wp2_with fail
        obtain ⟨W3, hW3⟩ : ∃ W3, W3 = wr := ⟨_, rfl⟩
        rw [← hW3]
        have hne : g2 ≠ g := fun e => HN.out (by simp [Value.ownBlock, e])
        obtain ⟨c, HC⟩ : ∃ c, Hid (c = pack L) := ⟨_, Lib.hid rfl⟩
        have hb3 : W3.heap[g]? = some (.cells #[.slice (some ⟨g2, 0, none⟩) c.length cap2, .int .i64 L.length] 27 (0, 0)) := by
          rw [hW3, HC.out]; exact HW.out.1
        have ho3 : W3.ownsRow base 5 1 (.slice (some ⟨g2, 0, none⟩) c.length cap2) c.length (ints .u8 c) := by
          rw [hW3, HC.out]; exact HW.out.2.2.2
        have hk3 : Kp (fun k => k = g ∨ v0.ownBlock = some k) w W3 := by
          rw [hW3]; exact HK.out
        have hf3 : ∀ k, (Value.slice (some ⟨g2, 0, none⟩) c.length cap2).ownBlock = some k → v0.ownBlock = some k ∨ w.heap.size ≤ k := fun k hk => HF.out k hk
        have hps : pack (L ++ [((v / 2 ^ (n - 1 - j) % 2 : Nat) : Int)]) = c.set (L.length / 8) (bits .or .u8 (c.getD (L.length / 8) 0) (((v / 2 ^ (n - 1 - j) % 2 : Nat) : Int) * 2 ^ (7 - L.length % 8))) := by
          rw [pack_snoc]; unfold pstep; rw [if_neg H8.out, HC.out]
        have hcl : L.length / 8 < c.length := by rw [HC.out]; have := H8.out; omega
        have HK3 := Lib.hid hk3
        have HF3 := Lib.hid hf3
        have HP3 := Lib.hid hps
        have HB3 := Lib.hid hb3
        have HO3 := Lib.hid ho3
        clear hk3 hf3 hps hb3 ho3 hW3 c0 hpl
      all_goals
        clear c1
        have e0 : W3.cell? ⟨g, 0, none⟩ = some (.slice (some ⟨g2, 0, none⟩) c.length cap2) := (blk_cell HB3.out 0).trans rfl
        have e1 : W3.cell? ⟨g, 1, none⟩ = some (.int .i64 L.length) := (blk_cell HB3.out 1).trans rfl
        have e2 := own_cell HO3.out (L.length / 8) hcl
        obtain ⟨e3, e4⟩ := e2
        have e5 : W3.frozen? ⟨g, 1, none⟩ = false := blk_free HB3.out 1
        go_region
        have hY := put_byte (c[L.length / 8]'hcl) v (n - 1 - j) (L.length % 8)  (by exact Nat.lt_of_lt_of_le hv (Nat.le_trans (Nat.pow_le_pow_right (by omega) hn) (by decide)))
        rw [hY]
        have hD : c.getD (L.length / 8) 0 = c[L.length / 8]'hcl := by rw [List.getD_eq_getElem?_getD, List.getElem?_eq_getElem hcl]; rfl
        rw [← hD]
        obtain ⟨X, HX⟩ : ∃ X, Hid (X = bits .or .u8 (c.getD (L.length / 8) 0) (((v / 2 ^ (n - 1 - j) % 2 : Nat) : Int) * 2 ^ (7 - L.length % 8))) := ⟨_, Lib.hid rfl⟩
        rw [← HX.out]
        obtain ⟨W4, hW4⟩ : ∃ W4, W4 = (W3.setCell ⟨g2, L.length / 8, none⟩ (.int .u8 X)).drew := ⟨_, rfl⟩
        rw [← hW4]
        have hb4 : W4.heap[g]? = some (.cells #[.slice (some ⟨g2, 0, none⟩) c.length cap2, .int .i64 L.length] 27 (0, 0)) := by
          rw [hW4]; exact blk_far HB3.out (fun e => hne e.symm) _
        have ho4 : W4.ownsRow base 5 1 (.slice (some ⟨g2, 0, none⟩) c.length cap2) c.length (ints .u8 (pack (L ++ [((v / 2 ^ (n - 1 - j) % 2 : Nat) : Int)]))) := by
          rw [hW4, HP3.out, ← HX.out]; exact own_store HO3.out (L.length / 8) X
        have hk4 : Kp (fun k => k = g ∨ v0.ownBlock = some k) w W4 := by
          rw [hW4]
          exact (HK3.out.setCell ((HF3.out g2 rfl).elim (fun h => .inl (.inr h)) .inr) _).drew
        have e1 : W4.cell? ⟨g, 1, none⟩ = some (.int .i64 L.length) := (blk_cell hb4 1).trans rfl
        have e5 : W4.frozen? ⟨g, 1, none⟩ = false := blk_free hb4 1
        have HB4 := Lib.hid hb4
        have HO4 := Lib.hid ho4
        have HK4 := Lib.hid hk4
        clear hb4 ho4 hk4 hW4 hD hY e3 e4
        go_wp2_with fail
        refine ⟨⟨j + 1, by omega, congrArg (Value.int .i64) (by omega), .slice (some ⟨g2, 0, none⟩) c.length cap2, ?_, HK4.out.setCell (.inl (.inl rfl)) _, HF3.out⟩, by simp only [intOf]; omega⟩
        have hLx : l ++ bitsOf v n (j + 1) = L ++ [((v / 2 ^ (n - 1 - j) % 2 : Nat) : Int)] := by rw [bitsOf_succ, ← List.append_assoc, HL.out]
        have hcp : c.length = (pack (L ++ [((v / 2 ^ (n - 1 - j) % 2 : Nat) : Int)])).length := by rw [HP3.out, List.length_set]
        rw [hLx]
        have hK1 : Kp (· = g) W4 (W4.setCell ⟨g, 1, none⟩ (.int .i64 ((L.length : Int) + 1))) := (Kp.refl (· = g) W4).setCell (.inl rfl) _
        refine ⟨?_, HH.out.2.1, ?_, ?_⟩
        · have := blk_set HB4.out 1 (.int .i64 ((L.length : Int) + 1))
          simpa using this
        · have := HH.out.2.2.1
          have := HK4.out.size
          have := hK1.size
          omega
        · rw [← hcp]
          exact hK1.own HO4.out (fun k hk => by simp [Value.ownBlock] at hk; omega)
    · have hlt' : ((n : Int) - 1 - j < 0) := by omega
      go_wp2_with fail
      go_ret
      obtain rfl : j = n := by omega
      exact ⟨rfl, v1, by rw [← HL.out]; exact HW.out, HK.out, HF.out⟩

end Go.Proofs.Ytbhjckhhmcfpfaa

/- The reference's Pack: bits as bytes. Condition: the list is bits, at most 10^9 of them. -/
import Derived.Test.YtbhjckhhmcfpfaaWriter
namespace Go.Proofs.Ytbhjckhhmcfpfaa
open Go.RowKit
set_option linter.unusedVariables false
set_option linter.unusedSimpArgs false

/-- A slice at A reads as these values. -/
def RdS (w : World) (A : Option Addr) (vs : List Value) : Prop := ∀ j x, vs[j]? = some x → ∃ b o, A = some ⟨b, o, none⟩ ∧ w.cell? ⟨b, o + j, none⟩ = some x
theorem RdS.kp {S : Nat → Prop} {w w1 : World} {A : Option Addr} {vs : List Value} (h : RdS w A vs) (k : Kp S w w1) (hn : ∀ b o, A = some ⟨b, o, none⟩ → ¬ S b) : RdS w1 A vs := by
  intro j x hj
  obtain ⟨b, o, rfl, hc⟩ := h j x hj
  exact ⟨b, o, rfl, k.cell hc (hn b o rfl)⟩
theorem RdS.own {w : World} {base n c : Nat} {e : TypeId} {A : Option Addr} {xs : List Value} (ho : w.ownsRow base e 1 (.slice A n c) n xs) : RdS w A xs := by
  intro j x hj
  have hl : xs.length = n := by have := ho.1; omega
  have hjl : j < xs.length := (List.getElem?_eq_some_iff.1 hj).1
  obtain ⟨g, cap, he, _⟩ := own_form ho (by omega)
  injection he with h1 h2 h3
  subst h1 h3
  obtain ⟨y, hy, hc, _⟩ := own_cellV ho j (by omega)
  rw [hj] at hy
  injection hy with hy
  subst hy
  exact ⟨g, 0, rfl, by rw [Nat.zero_add]; exact hc⟩

theorem pack_byte (b x : Int) (q : Nat) (hx : x = 0 ∨ x = 1) :
    bits .or .u8 b (wrap64 (x * 2 ^ (7 - q)) % 256) = bits .or .u8 b (x * 2 ^ (7 - q)) := by
  have h1 := Nat.pow_le_pow_right (n := 2) (by omega) (show 7 - q ≤ 7 by omega)
  have e2 : 2 ^ 7 = 128 := by decide
  have e : ((2 ^ (7 - q) : Nat) : Int) = (2 : Int) ^ (7 - q) := by simp
  rw [← e]
  generalize 2 ^ (7 - q) = p at *
  congr 1
  unfold wrap64
  rcases hx with rfl | rfl <;> omega

def PackRel (l : List Int) (k : Nat) (v : Value) (w wr : World) : Prop :=
  wr.ownsRow w.heap.size 5 1 v (pack (l.take k)).length (ints .u8 (pack (l.take k))) ∧ Kp (fun _ => False) w wr

set_option maxRecDepth 100000 in
set_option maxHeartbeats 1000000 in
theorem pack_any (A : Option Addr) (cap0 : Nat) (l : List Int) (w : World) (hr : RdS w A (ints .i64 l)) (hb : ∀ x, x ∈ l → x = 0 ∨ x = 1) (hl : l.length ≤ 1000000000) :
    Calls Try.prog 15 #[.slice A l.length cap0] w fun e w' => e = .returned (.string (strOfNums (pack l))) ∧ Kp (fun _ => False) w w' := by
  have HR := Lib.hid hr
  have HBt := Lib.hid hb
  clear hr hb
  go_enter Try.func15, Try.ntmps15
  go_wp2_with fail
  go_loopw [3, 4] (fun v i wr => ∃ k : Nat, k ≤ l.length ∧ i = .int .i64 k ∧ PackRel l k v w wr) (fun _ i _ => l.length - (intOf i).toNat)
  case atStart => exact ⟨0, Nat.zero_le _, rfl, World.ownsRow_nil _ _ _ _, Kp.refl _ _⟩
  case round =>
    obtain ⟨k, hk, rfl, ho, hkp⟩ := hrel
    obtain ⟨L, hL⟩ : ∃ L, L = l.take k := ⟨_, rfl⟩
    rw [← hL] at ho
    have hLl : L.length = k := by rw [hL]; simp; omega
    have hpl := pack_len L
    have HL := Lib.hid hL
    have HPL := Lib.hid hpl
    have HLL := Lib.hid hLl
    have HO := Lib.hid ho
    have HK := Lib.hid hkp
    have hps : (pack L).length ≤ 1000000000 := by omega
    have hpk : k % 8 = 0 ∨ k / 8 + 1 = (pack L).length := by omega
    have hpk2 : k % 8 = 0 → k / 8 = (pack L).length := by omega
    clear hL ho hkp hLl hpl
    by_cases hlt : k < l.length
    · obtain ⟨A1, cap1, rfl⟩ := own_slice HO.out
      obtain ⟨x, hx⟩ : ∃ x, l[k]? = some x := ⟨_, List.getElem?_eq_getElem hlt⟩
      have hx01 := HBt.out x (List.mem_of_getElem? hx)
      obtain ⟨ba, oa, rfl, hca⟩ := HR.out k (.int .i64 x) (by simp [ints, hx])
      have HLk : Hid (l.take (k + 1) = L ++ [x]) := by rw [HL.out]; rw [List.take_add_one, hx]; rfl
      have HX := Lib.hid hx
      have HX1 := Lib.hid hx01
      clear hx hx01
      by_cases h8 : k % 8 = 0
      case' pos =>
        have H8 := Lib.hid h8
        have hk8 := hpk2 h8
        have hb8 : ((k : Int) % 8 == 0) = true := by simp; omega
        clear h8
        go_wp2_with (at_builtin; refine app1 w.heap.size rfl _ _ 25 5 (.int .u8 0) 1 rfl Try.underlying25 info_u8 rfl (by decide) (.slice A1 (pack L).length cap1) _ _ (.int .u8 0) rfl rfl rfl HO.out HK.out.size (by omega) ?_; intro v2 w2 hown hgrow hfresh; obtain ⟨g2, cap2, rfl, hg2, hg2l, hcap2, hcap3⟩ := own_form hown (by omega); have HO2 := Lib.hid hown; have HG := Lib.hid hgrow; clear hown hgrow hfresh)
        obtain ⟨W3, hW3⟩ : ∃ W3, W3 = w2 := ⟨_, rfl⟩
        rw [← hW3]
        obtain ⟨c, HC⟩ : ∃ c, Hid (c = pack L ++ [0]) := ⟨_, Lib.hid rfl⟩
        have hce : (pack L).length + 1 = c.length := by rw [HC.out]; simp
        have ho3 : W3.ownsRow w.heap.size 5 1 (.slice (some ⟨g2, 0, none⟩) c.length cap2) c.length (ints .u8 c) := by
          rw [hW3, ← hce, HC.out]
          simpa [ints] using HO2.out
        have hk3 : Kp (fun _ => False) w W3 := by
          rw [hW3]
          exact HK.out.grown HG.out (fun k hk => .inr (own_lt HO.out hk).1)
        have hps3 : pack (L ++ [x]) = c.set (c.length - 1) (bits .or .u8 (c.getD (c.length - 1) 0) (x * 2 ^ (7 - k % 8))) := by
          rw [pack_snoc, HLL.out]; unfold pstep; rw [if_pos H8.out, HC.out]; simp only [List.length_append, List.length_cons, List.length_nil]; rw [hk8]; rfl
        have hcl : 0 < c.length := by omega
        have hcl2 : c.length ≤ 1000000001 := by omega
        have hg3 : w.heap.size ≤ g2 := hg2
        rw [hce]
        have HK3 := Lib.hid hk3
        have HP3 := Lib.hid hps3
        have HO3 := Lib.hid ho3
        clear hk3 hps3 ho3 hce hW3 hk8 hpk2 hpk
      case' neg =>
        have H8 := Lib.hid h8
        have hb8 : ((k : Int) % 8 == 0) = false := by simp; omega
        obtain ⟨g2, cap2, hsl, hg2, hg2l, hcap2, hcap3⟩ := own_form HO.out (by omega)
        rw [hsl] at HO
        have hk8 : k / 8 = (pack L).length - 1 := by omega
        have hpp : 0 < (pack L).length := by omega
        rw [hsl]
        clear h8 hsl
        go_wp2_with fail
        obtain ⟨W3, hW3⟩ : ∃ W3, W3 = wr := ⟨_, rfl⟩
        rw [← hW3]
        obtain ⟨c, HC⟩ : ∃ c, Hid (c = pack L) := ⟨_, Lib.hid rfl⟩
        have ho3 : W3.ownsRow w.heap.size 5 1 (.slice (some ⟨g2, 0, none⟩) c.length cap2) c.length (ints .u8 c) := by
          rw [hW3, HC.out]; exact HO.out
        have hk3 : Kp (fun _ => False) w W3 := by rw [hW3]; exact HK.out
        have hps3 : pack (L ++ [x]) = c.set (c.length - 1) (bits .or .u8 (c.getD (c.length - 1) 0) (x * 2 ^ (7 - k % 8))) := by
          rw [pack_snoc, HLL.out]; unfold pstep; rw [if_neg H8.out, HC.out, hk8]
        have hce : (pack L).length = c.length := by rw [HC.out]
        have hcl : 0 < c.length := by omega
        have hcl2 : c.length ≤ 1000000001 := by omega
        have hg3 : w.heap.size ≤ g2 := hg2
        rw [hce]
        have HK3 := Lib.hid hk3
        have HP3 := Lib.hid hps3
        have HO3 := Lib.hid ho3
        clear hk3 hps3 ho3 hce hW3 hk8 hpk2 hpk hpp
      all_goals
        have e0 := HK3.out.cell hca (fun h => h)
        obtain ⟨e3, e4⟩ := own_cell HO3.out (c.length - 1) (by omega)
        obtain ⟨B, HB⟩ : ∃ B, Hid (B = c.getD (c.length - 1) 0) := ⟨_, Lib.hid rfl⟩
        rw [← HB.out] at e3
        clear hca
        go_region
        rw [pack_byte _ x (k % 8) HX1.out]
        obtain ⟨X, HX'⟩ : ∃ X, Hid (X = bits .or .u8 B (x * 2 ^ (7 - k % 8))) := ⟨_, Lib.hid rfl⟩
        rw [← HX'.out]
        obtain ⟨W4, hW4⟩ : ∃ W4, W4 = (W3.setCell ⟨g2, c.length - 1, none⟩ (.int .u8 X)).drew := ⟨_, rfl⟩
        rw [← hW4]
        have ho4 : W4.ownsRow w.heap.size 5 1 (.slice (some ⟨g2, 0, none⟩) c.length cap2) c.length (ints .u8 (pack (L ++ [x]))) := by
          rw [hW4, HP3.out, ← HB.out, ← HX'.out]; exact own_store HO3.out (c.length - 1) X
        have hk4 : Kp (fun _ => False) w W4 := by
          rw [hW4]
          exact (HK3.out.setCell (.inr hg3) _).drew
        have HO4 := Lib.hid ho4
        have HK4 := Lib.hid hk4
        clear ho4 hk4 hW4 e3 e4 e0
        go_wp2_with fail
        have hcp : c.length = (pack (L ++ [x])).length := by rw [HP3.out, List.length_set]
        refine ⟨⟨k + 1, by omega, by simp, ?_, HK4.out⟩, by simp only [intOf]; omega⟩
        rw [HLk.out, ← hcp]
        exact HO4.out
    · obtain ⟨A1, cap1, rfl⟩ := own_slice HO.out
      have hcv := own_string (P := Try.prog) (src := 25) (dst := 9) Try.underlying25 Try.underlying5 Try.underlying9 HO.out
      go_wp2_with fail
      go_ret
      refine ⟨?_, HK.out⟩
      have : L = l := by rw [HL.out]; exact List.take_of_length_le (by omega)
      rw [this]
      rfl

end Go.Proofs.Ytbhjckhhmcfpfaa

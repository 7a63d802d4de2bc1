/- The first call of chapter 15's statements (alive) returns true. -/
import Derived.Test.YtbhjckhhmcfpfaaSays
namespace Go.Proofs.Ytbhjckhhmcfpfaa
open Go.RowKit
set_option linter.unusedVariables false
set_option linter.unusedSimpArgs false

/-- Bytes, written out. -/
def bs (l : List UInt8) : ByteArray := ⟨l.toArray⟩
theorem bestEx : toks (bestP [bs [97, 98], bs [98, 99, 100], bs [97]] (bs [97, 98, 99, 100]) 4) = [97, 257] := by decide +kernel
theorem dictEx : PhOk [bs [97, 98], bs [98, 99, 100], bs [97]] := ⟨⟨by decide, by decide, by decide, by decide⟩, by decide⟩

set_option maxRecDepth 100000 in
set_option maxHeartbeats 2000000 in
theorem bestAlive (w : World) : Calls Try.prog 21 #[] w fun e w' => e = .returned (.bool true) ∧ Kp (fun _ => False) w w' := by
  obtain ⟨L, HL⟩ : ∃ L, Hid (L = [bs [97, 98], bs [98, 99, 100], bs [97]]) := ⟨_, Lib.hid rfl⟩
  have hl3 : L.length = 3 := by rw [HL.out]; rfl
  have HP : Hid (PhOk L) := by refine Lib.hid ?_; rw [HL.out]; exact dictEx
  obtain ⟨T, HT⟩ : ∃ T, Hid (T = bs [97, 98, 99, 100]) := ⟨_, Lib.hid rfl⟩
  have hts : T.size = 4 := by rw [HT.out]; rfl
  have HB : Hid (toks (bestP L T 4) = [97, 257]) := by refine Lib.hid ?_; rw [HL.out, HT.out]; exact bestEx
  go_enter Try.func21, Try.ntmps21
  go_wp2_with fail
  have hr := RdS.new w #[.string ⟨#[97, 98]⟩, .string ⟨#[98, 99, 100]⟩, .string ⟨#[97]⟩] 9
  have he : (#[Value.string ⟨#[97, 98]⟩, .string ⟨#[98, 99, 100]⟩, .string ⟨#[97]⟩] : Array Value).toList = strs L := by rw [HL.out]; rfl
  rw [he] at hr
  have hm := make_ok _ 3 L _ hr HP.out
  rw [hl3] at hm
  refine hm.mono ?_
  clear hm hr he
  rintro e w1 ⟨g, rfl, hg, hd, hk⟩
  have HD := Lib.hid hd
  have HK := Lib.hid (((Kp.refl (fun _ => False) w).alloc _).trans hk (fun _ h => .inl h))
  clear hg hd hk
  go_wp2_with fail
  have hp := bparse_any g L T 4 w1 HD.out HP.out.ok (by omega) (by decide) (by decide)
  rw [HT.out] at hp
  refine hp.mono ?_
  clear hp
  rintro e w2 ⟨v, rfl, ho, hk⟩
  rw [← HT.out] at ho
  have hlen : (bestP L T 4).length = 2 := by
    have := congrArg List.length HB.out
    rw [toks_len] at this
    exact this
  rw [HB.out, hlen] at ho
  obtain ⟨A1, cap1, rfl⟩ := own_slice ho
  have HK2 := Lib.hid (HK.out.trans hk (fun _ h => .inl h))
  have HD2 := Lib.hid (HD.out.kp hk)
  have HO := Lib.hid ho
  clear hk ho hlen hts
  go_wp2_with fail
  have hb3 := blk_new w2 (.cells #[.int .i64 97, .int .i64 257] 3)
  have hsame := sameInts_any A1 (some ⟨w2.heap.size, 0, none⟩) cap1 2 [97, 257] [97, 257] _ ((RdS.own HO.out).ofAlloc _) (RdS.blk hb3) (by decide) (by decide)
  rw [show ([97, 257] : List Int).length = 2 from rfl, show decide (([97, 257] : List Int) = [97, 257]) = true from rfl] at hsame
  refine hsame.mono ?_
  clear hsame hb3
  rintro e w' ⟨rfl, m, rfl⟩
  go_wp2_with fail
  refine (bparse_none _ _ 0 _ (by decide) (.inl (by decide))).mono ?_
  rintro e w' ⟨rfl, rfl⟩
  go_wp2_with fail
  go_ret
  exact ⟨rfl, (HK2.out.alloc _).drewN _⟩

end Go.Proofs.Ytbhjckhhmcfpfaa

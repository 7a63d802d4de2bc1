/- The book's last question: Apart. -/
import Derived.Test.YtbhjckhhmcfpfaaBkNone
namespace Go.Proofs.Ytbhjckhhmcfpfaa
open Go.RowKit
set_option linter.unusedVariables false
set_option linter.unusedSimpArgs false

/-- The book's lists, found in their places. -/
structure Bs (w : World) (gB : Nat) (rsI rsC : List Value) (AI : Option Addr) (cI : Nat) (AC : Option Addr) (cC : Nat) : Prop where
  bI : BFInts w gB 0 rsI AI cI
  bC : BFCosts w gB 6 rsC AC cC
  n2 : BN w gB 2
  n4 : BN w gB 4
  n8 : BN w gB 8
  tI : ∀ b o, AI = some ⟨b, o, none⟩ → ∃ cur, w.heap[b]? = some (.cells cur 30 (0, 0))
  tC : ∀ b o, AC = some ⟨b, o, none⟩ → ∃ cur, w.heap[b]? = some (.cells cur 50 (0, 0))
theorem Bs.kpT {w w1 : World} {gB : Nat} {rsI rsC : List Value} {AI : Option Addr} {cI : Nat} {AC : Option Addr} {cC : Nat} {S : Nat → Prop} {t : TypeId} (h : Bs w gB rsI rsC AI cI AC cC) (k : Kp S w w1) (hS : ∀ b, S b → ∃ cur, w.heap[b]? = some (.cells cur t (0, 0))) (h1 : t ≠ 59) (h2 : t ≠ 30) (h3 : t ≠ 50) : Bs w1 gB rsI rsC AI cI AC cC := by
  have no : ∀ b cur t2, t ≠ t2 → w.heap[b]? = some (.cells cur t2 (0, 0)) → ¬ S b := by
    intro b cur t2 ht hh hb
    obtain ⟨cur2, hh2⟩ := hS b hb
    exact blk_ne hh2 hh ht rfl
  obtain ⟨csI, g1, g2, g3⟩ := h.bI
  obtain ⟨csC, e1, e2, e3⟩ := h.bC
  have nB := no gB _ _ h1 g1
  refine ⟨⟨csI, k.blk g1 nB, g2, g3.kp k (fun b o hA => ?_)⟩, ⟨csC, k.blk e1 nB, e2, e3.kp k (fun b o hA => ?_)⟩, ?_, ?_, ?_, fun b o hA => ?_, fun b o hA => ?_⟩
  · obtain ⟨cur, hh⟩ := h.tI b o hA
    exact no b _ _ h2 hh
  · obtain ⟨cur, hh⟩ := h.tC b o hA
    exact no b _ _ h3 hh
  · exact k.cell h.n2 nB
  · exact k.cell h.n4 nB
  · exact k.cell h.n8 nB
  · obtain ⟨cur, hh⟩ := h.tI b o hA
    exact ⟨cur, k.blk hh (no b _ _ h2 hh)⟩
  · obtain ⟨cur, hh⟩ := h.tC b o hA
    exact ⟨cur, k.blk hh (no b _ _ h3 hh)⟩
theorem Bs.kp {w w1 : World} {gB : Nat} {rsI rsC : List Value} {AI : Option Addr} {cI : Nat} {AC : Option Addr} {cC : Nat} (h : Bs w gB rsI rsC AI cI AC cC) (k : Kp (fun _ => False) w w1) : Bs w1 gB rsI rsC AI cI AC cC :=
  h.kpT (t := 3) k (fun _ h => h.elim) (by decide) (by decide) (by decide)
theorem own_kpT {w w1 : World} {base : Nat} {e t : TypeId} {v : Value} {n : Nat} {xs : List Value} {S : Nat → Prop} (h : w.ownsRow base e 1 v n xs) (k : Kp S w w1) (hS : ∀ b, S b → ∃ cur, w.heap[b]? = some (.cells cur t (0, 0))) (ht : t ≠ e) : w1.ownsRow base e 1 v n xs := by
  refine k.own h (fun b hb hs => ?_)
  obtain ⟨cur, hh⟩ := own_blk h hb
  obtain ⟨cur2, hh2⟩ := hS b hs
  exact blk_ne hh2 hh ht rfl
theorem OwnFInts.kp {w w1 : World} {base : Nat} {vs : List Value} {f : Nat → List Value} (h : OwnFInts w base vs f) (k : Kp (fun _ => False) w w1) : OwnFInts w1 base vs f := fun i v hv => k.own (h i v hv) (fun _ _ h => h)
theorem OwnFCosts.kp {w w1 : World} {base : Nat} {vs : List Value} {f : Nat → List Value} (h : OwnFCosts w base vs f) (k : Kp (fun _ => False) w w1) : OwnFCosts w1 base vs f := fun i v hv => k.own (h i v hv) (fun _ _ h => h)
theorem AlikeCosts.dr {w w1 : World} {rs ws : List Value} (h : AlikeCosts w rs ws) (k : Dr w w1) : AlikeCosts w1 rs ws := by
  intro i hi
  obtain ⟨xs, A, c, A2, c2, h1, h2, h3, h4, h5, h6⟩ := h i hi
  exact ⟨xs, A, c, A2, c2, h1, h2, h3.kp k.kp (fun _ _ _ h => h), h4.kp k.kp (fun _ _ _ h => h), h5, h6⟩

set_option maxRecDepth 100000 in
set_option maxHeartbeats 4000000 in
theorem apart_any (gB base : Nat) (rsI wsI rsC wsC : List Value) (fI fC : Nat → List Value) (AI AWI AC AWC : Option Addr) (cI cWI cC cWC : Nat) (w : World)
    (hB : Bs w gB rsI rsC AI cI AC cC) (bWI : BFInts w gB 1 wsI AWI cWI) (bWC : BFCosts w gB 7 wsC AWC cWC) (aI : AlikeInts w rsI wsI) (aC : AlikeCosts w rsC wsC) (oI : OwnFInts w base rsI fI) (oC : OwnFCosts w base rsC fC) (pI : ApartV rsI) (pC : ApartV rsC)
    (lI : rsI.length ≤ 2) (lC : rsC.length ≤ 2) (lWI : wsI.length = rsI.length) (lWC : wsC.length = rsC.length) (mI : ∀ i, (fI i).length ≤ 800) (mC : ∀ i, (fC i).length ≤ 800) (hb : base ≤ w.heap.size) :
    Calls Try.prog 27 #[.pointer (some ⟨gB, 0, none⟩)] w fun e w' => e = .returned (.bool true) ∧ Kp (fun i => InV rsI i ∨ InV rsC i) w w' := by
  have HB := Lib.hid hB
  have HWI := Lib.hid bWI
  have HWC := Lib.hid bWC
  have HaI := Lib.hid aI
  have HaC := Lib.hid aC
  have HoI := Lib.hid oI
  have HoC := Lib.hid oC
  have HpI := Lib.hid pI
  have HpC := Lib.hid pC
  have HlI := Lib.hid lI
  have HlC := Lib.hid lC
  have HlWI := Lib.hid lWI
  have HlWC := Lib.hid lWC
  have HmI := Lib.hid mI
  have HmC := Lib.hid mC
  have Hb := Lib.hid hb
  clear hB bWI bWC aI aC oI oC pI pC lI lC lWI lWC mI mC hb
  go_enter Try.func27, Try.ntmps27
  go_wp2_with fail
  refine (stillInts_any gB rsI wsI AI AWI cI cWI _ HB.out.bI HWI.out HaI.out (by have := HlI.out; omega) HlWI.out).mono ?_
  rintro e w1 ⟨rfl, d1⟩
  have D := Lib.hid d1
  clear d1
  go_wp2_with fail
  refine (stillTexts_none gB _ (HB.out.kp D.out.kp).n2).mono ?_
  rintro e w2 ⟨rfl, d1⟩
  have D := Lib.hid (D.out.trans d1)
  clear d1
  go_wp2_with fail
  refine (stillHits_none gB _ (HB.out.kp D.out.kp).n4).mono ?_
  rintro e w3 ⟨rfl, d1⟩
  have D := Lib.hid (D.out.trans d1)
  clear d1
  go_wp2_with fail
  refine (stillCosts_any gB rsC wsC AC AWC cC cWC _ (HB.out.kp D.out.kp).bC (HWC.out.kp D.out.kp) (HaC.out.dr D.out) (by have := HlC.out; omega) HlWC.out).mono ?_
  rintro e w4 ⟨rfl, d1⟩
  have D := Lib.hid (D.out.trans d1)
  clear d1
  go_wp2_with fail
  refine (stillBytes_none gB _ (HB.out.kp D.out.kp).n8).mono ?_
  rintro e w5 ⟨rfl, d1⟩
  have D := Lib.hid (D.out.trans d1)
  have HB := Lib.hid (HB.out.kp D.out.kp)
  have HoI := Lib.hid (HoI.out.kp D.out.kp)
  have HoC := Lib.hid (HoC.out.kp D.out.kp)
  have KW : Hid (Kp (fun i => InV rsI i ∨ InV rsC i) w w5) := Lib.hid ((Kp.refl _ w).trans D.out.kp (fun _ h => h.elim))
  have Hb : Hid (base ≤ w5.heap.size) := Lib.hid (Nat.le_trans Hb.out D.out.kp.size)
  clear d1
  go_wp2_with fail
  refine (putInts_any gB base rsI fI AI cI _ HB.out.bI HB.out.tI HoI.out HpI.out HlI.out HmI.out Hb.out).mono ?_
  rintro e w6 ⟨rfl, o6, b6, k6⟩
  have T6 : ∀ b, InV rsI b → ∃ cur, w5.heap[b]? = some (.cells cur 3 (0, 0)) := fun b hb => HoI.out.blk hb
  have HB := Lib.hid (HB.out.kpT k6 T6 (by decide) (by decide) (by decide))
  have HoC : Hid (OwnFCosts w6 base rsC fC) := Lib.hid (fun i v hv => own_kpT (HoC.out i v hv) k6 T6 (by decide))
  have HoI := Lib.hid o6
  have Hb : Hid (base ≤ w6.heap.size) := Lib.hid (Nat.le_trans Hb.out k6.size)
  have KW := Lib.hid (KW.out.trans k6 (fun _ h => .inl (.inl h)))
  clear o6 b6 k6 T6
  go_wp2_with fail
  refine (putTexts_none gB _ HB.out.n2).mono ?_
  rintro e w7 ⟨rfl, d1⟩
  have D := Lib.hid d1
  clear d1
  go_wp2_with fail
  refine (putHits_none gB _ (HB.out.kp D.out.kp).n4).mono ?_
  rintro e w8 ⟨rfl, d1⟩
  have D := Lib.hid (D.out.trans d1)
  have HB := Lib.hid (HB.out.kp D.out.kp)
  have HoI : Hid (OwnFInts w8 base rsI _) := Lib.hid (HoI.out.kp D.out.kp)
  have HoC := Lib.hid (HoC.out.kp D.out.kp)
  have KW := Lib.hid (KW.out.trans D.out.kp (fun _ h => h.elim))
  have Hb : Hid (base ≤ w8.heap.size) := Lib.hid (Nat.le_trans Hb.out D.out.kp.size)
  clear d1
  go_wp2_with fail
  refine (putCosts_any gB base rsC fC AC cC _ HB.out.bC HB.out.tC HoC.out HpC.out HlC.out HmC.out Hb.out).mono ?_
  rintro e w9 ⟨rfl, o9, b9, k9⟩
  have T9 : ∀ b, InV rsC b → ∃ cur, w8.heap[b]? = some (.cells cur 64 (0, 0)) := fun b hb => HoC.out.blk hb
  have HB := Lib.hid (HB.out.kpT k9 T9 (by decide) (by decide) (by decide))
  have HoI : Hid (OwnFInts w9 base rsI _) := Lib.hid (fun i v hv => own_kpT (HoI.out i v hv) k9 T9 (by decide))
  have HoC := Lib.hid o9
  have Hb : Hid (base ≤ w9.heap.size) := Lib.hid (Nat.le_trans Hb.out k9.size)
  have KW := Lib.hid (KW.out.trans k9 (fun _ h => .inl (.inr h)))
  clear o9 b9 k9 T9
  go_wp2_with fail
  refine (putBytes_none gB _ HB.out.n8).mono ?_
  rintro e w10 ⟨rfl, d1⟩
  have HB := Lib.hid (HB.out.kp d1.kp)
  have HoI : Hid (OwnFInts w10 base rsI (fun i => marksInts i 0 ((fun i => (fI i).length) i))) := Lib.hid (HoI.out.kp d1.kp)
  have HoC : Hid (OwnFCosts w10 base rsC (fun i => marksCosts i 0 ((fun i => (fC i).length) i))) := Lib.hid (HoC.out.kp d1.kp)
  have KW := Lib.hid (KW.out.trans d1.kp (fun _ h => h.elim))
  have Hb : Hid (base ≤ w10.heap.size) := Lib.hid (Nat.le_trans Hb.out d1.kp.size)
  clear d1
  go_wp2_with fail
  refine (growInts_any gB base rsI (fun i => (fI i).length) AI cI _ HB.out.bI HB.out.tI HoI.out HpI.out HlI.out HmI.out Hb.out).mono ?_
  rintro e w11 ⟨Ag, cg, gs, rfl, hg, hgr, _, k11⟩
  have T11 : ∀ b, InV rsI b → ∃ cur, w10.heap[b]? = some (.cells cur 3 (0, 0)) := fun b hb => HoI.out.blk hb
  have HB := Lib.hid (HB.out.kpT k11 T11 (by decide) (by decide) (by decide))
  have HoC : Hid (OwnFCosts w11 base rsC (fun i => marksCosts i 0 ((fun i => (fC i).length) i))) := Lib.hid (fun i v hv => own_kpT (HoC.out i v hv) k11 T11 (by decide))
  have FI : Hid (∀ i, i < rsI.length → ∃ A c, rsI[i]? = some (.slice A ((fI i).length) c)) := by
    refine Lib.hid fun i hi => ?_
    have hv := List.getElem?_eq_getElem hi
    have ho := HoI.out i _ hv
    obtain ⟨A, c, he⟩ := own_slice ho
    rw [marksInts_len] at he
    exact ⟨A, c, by rw [hv, he]⟩
  have FC : Hid (∀ i, i < rsC.length → ∃ A c, rsC[i]? = some (.slice A ((fC i).length) c)) := by
    refine Lib.hid fun i hi => ?_
    have hv := List.getElem?_eq_getElem hi
    have ho := HoC.out i _ hv
    obtain ⟨A, c, he⟩ := own_slice ho
    rw [marksCosts_len] at he
    exact ⟨A, c, by rw [hv, he]⟩
  have Hb : Hid (base ≤ w11.heap.size) := Lib.hid (Nat.le_trans Hb.out k11.size)
  have Hg := Lib.hid hg
  have Hgr := Lib.hid hgr
  have KW := Lib.hid (KW.out.trans k11 (fun _ h => .inl (.inl h)))
  clear hg hgr k11 T11 HoI
  go_wp2_with fail
  refine (growTexts_none gB _ HB.out.n2).mono ?_
  rintro e w12 ⟨rfl, d1⟩
  have D := Lib.hid d1
  clear d1
  go_wp2_with fail
  refine (growHits_none gB _ (HB.out.kp D.out.kp).n4).mono ?_
  rintro e w13 ⟨rfl, d1⟩
  have D := Lib.hid (D.out.trans d1)
  have HB := Lib.hid (HB.out.kp D.out.kp)
  have HoC : Hid (OwnFCosts w13 base rsC (fun i => marksCosts i 0 ((fun i => (fC i).length) i))) := Lib.hid (HoC.out.kp D.out.kp)
  have KW := Lib.hid (KW.out.trans D.out.kp (fun _ h => h.elim))
  have Hb : Hid (base ≤ w13.heap.size) := Lib.hid (Nat.le_trans Hb.out D.out.kp.size)
  have Hg := Lib.hid (D.out.kp.own Hg.out (fun _ _ h => h))
  have Hgr := Lib.hid (Hgr.out.kp D.out.kp (fun _ h => h.elim))
  clear d1
  go_wp2_with fail
  refine (growCosts_any gB base rsC (fun i => (fC i).length) AC cC _ HB.out.bC HB.out.tC HoC.out HpC.out HlC.out HmC.out Hb.out).mono ?_
  rintro e w14 ⟨AgC, cgC, gsC, rfl, hgC, hgrC, _, k14⟩
  have T14 : ∀ b, InV rsC b → ∃ cur, w13.heap[b]? = some (.cells cur 64 (0, 0)) := fun b hb => HoC.out.blk hb
  have HB := Lib.hid (HB.out.kpT k14 T14 (by decide) (by decide) (by decide))
  have Hg := Lib.hid (own_kpT Hg.out k14 T14 (by decide))
  have Hgr := Lib.hid (Hgr.out.kp k14 (fun b hb => .inl (by obtain ⟨cur, hh⟩ := T14 b hb; exact ⟨cur, 64, hh, by decide⟩)))
  have HgC := Lib.hid hgC
  have HgrC := Lib.hid hgrC
  have KW := Lib.hid (KW.out.trans k14 (fun _ h => .inl (.inr h)))
  clear hgC hgrC k14 T14 HoC
  go_wp2_with fail
  refine (growBytes_none gB _ HB.out.n8).mono ?_
  rintro e w15 ⟨rfl, d1⟩
  have HB := Lib.hid (HB.out.kp d1.kp)
  have Hg := Lib.hid (RdS.ownS (d1.kp.own Hg.out (fun _ _ h => h)))
  have HgC := Lib.hid (RdS.ownS (d1.kp.own HgC.out (fun _ _ h => h)))
  have Hgr := Lib.hid (Hgr.out.kp d1.kp (fun _ h => h.elim))
  have HgrC := Lib.hid (HgrC.out.kp d1.kp (fun _ h => h.elim))
  have hgl := Hgr.out.len
  have hgCl := HgrC.out.len
  have M1 : Hid (∀ w', Kp (fun _ => False) w15 w' → Calls Try.prog 62 #[.slice Ag gs.length cg] w' fun e w'' => e = .returned (.bool true) ∧ Kp (fun _ => False) w' w'') := by
    refine Lib.hid fun w' k => ?_
    refine markedInts_any Ag cg gs (fun i => (fI i).length + 72) w' (Hg.out.kp k (fun _ _ _ h => h)) (by have := HlI.out; omega) (fun i => by have := HmI.out i; show (fI i).length + 72 ≤ 900; omega) (fun i hi => ?_)
    obtain ⟨A, c, h1, h2, _⟩ := Hgr.out.g i (by omega)
    exact ⟨A, c, h1, h2.kp k (fun _ _ _ h => h)⟩
  have M2 : Hid (∀ w', Kp (fun _ => False) w15 w' → Calls Try.prog 62 #[.slice AI rsI.length cI] w' fun e w'' => e = .returned (.bool true) ∧ Kp (fun _ => False) w' w'') := by
    refine Lib.hid fun w' k => ?_
    refine markedInts_any AI cI rsI (fun i => (fI i).length) w' (HB.out.bI.rd.kp k (fun _ _ _ h => h)) HlI.out (fun i => by have := HmI.out i; show (fI i).length ≤ 900; omega) (fun i hi => ?_)
    obtain ⟨A, c, h1⟩ := FI.out i hi
    exact ⟨A, c, h1, (Hgr.out.r i A c hi h1).kp k (fun _ _ _ h => h)⟩
  have M3 : Hid (∀ w', Kp (fun _ => False) w15 w' → Calls Try.prog 65 #[.slice AgC gsC.length cgC] w' fun e w'' => e = .returned (.bool true) ∧ Kp (fun _ => False) w' w'') := by
    refine Lib.hid fun w' k => ?_
    refine markedCosts_any AgC cgC gsC (fun i => (fC i).length + 72) w' (HgC.out.kp k (fun _ _ _ h => h)) (by have := HlC.out; omega) (fun i => by have := HmC.out i; show (fC i).length + 72 ≤ 900; omega) (fun i hi => ?_)
    obtain ⟨A, c, h1, h2, _⟩ := HgrC.out.g i (by omega)
    exact ⟨A, c, h1, h2.kp k (fun _ _ _ h => h)⟩
  have M4 : Hid (∀ w', Kp (fun _ => False) w15 w' → Calls Try.prog 65 #[.slice AC rsC.length cC] w' fun e w'' => e = .returned (.bool true) ∧ Kp (fun _ => False) w' w'') := by
    refine Lib.hid fun w' k => ?_
    refine markedCosts_any AC cC rsC (fun i => (fC i).length) w' (HB.out.bC.rd.kp k (fun _ _ _ h => h)) HlC.out (fun i => by have := HmC.out i; show (fC i).length ≤ 900; omega) (fun i hi => ?_)
    obtain ⟨A, c, h1⟩ := FC.out i hi
    exact ⟨A, c, h1, (HgrC.out.r i A c hi h1).kp k (fun _ _ _ h => h)⟩
  have KW := Lib.hid (KW.out.trans d1.kp (fun _ h => h.elim))
  clear d1 Hg Hgr HgC HgrC hgl hgCl
  go_wp2_with fail
  refine (M1.out _ (Kp.refl _ _)).mono ?_
  rintro e w16 ⟨rfl, k1⟩
  have K := Lib.hid k1
  have hc := (HB.out.kp K.out).bI.cell
  clear k1
  go_wp2_with fail
  refine (M2.out _ K.out).mono ?_
  rintro e w17 ⟨rfl, k1⟩
  have K := Lib.hid (K.out.trans k1 (fun _ h => h.elim))
  clear k1 hc
  go_wp2_with fail
  refine (markedTexts_none _).mono ?_
  rintro e w18 ⟨rfl, d1⟩
  have K := Lib.hid (K.out.trans d1.kp (fun _ h => h.elim))
  have hc : w18.cell? ⟨gB, 2, none⟩ = some (.slice none 0 0) := (HB.out.kp K.out).n2
  clear d1
  go_wp2_with fail
  refine (markedTexts_none _).mono ?_
  rintro e w19 ⟨rfl, d1⟩
  have K := Lib.hid (K.out.trans d1.kp (fun _ h => h.elim))
  clear d1 hc
  go_wp2_with fail
  refine (markedHits_none _).mono ?_
  rintro e w20 ⟨rfl, d1⟩
  have K := Lib.hid (K.out.trans d1.kp (fun _ h => h.elim))
  have hc : w20.cell? ⟨gB, 4, none⟩ = some (.slice none 0 0) := (HB.out.kp K.out).n4
  clear d1
  go_wp2_with fail
  refine (markedHits_none _).mono ?_
  rintro e w21 ⟨rfl, d1⟩
  have K := Lib.hid (K.out.trans d1.kp (fun _ h => h.elim))
  clear d1 hc
  go_wp2_with fail
  refine (M3.out _ K.out).mono ?_
  rintro e w22 ⟨rfl, k1⟩
  have K := Lib.hid (K.out.trans k1 (fun _ h => h.elim))
  have hc := (HB.out.kp K.out).bC.cell
  clear k1
  go_wp2_with fail
  refine (M4.out _ K.out).mono ?_
  rintro e w23 ⟨rfl, k1⟩
  have K := Lib.hid (K.out.trans k1 (fun _ h => h.elim))
  clear k1 hc
  go_wp2_with fail
  refine (markedBytes_none _).mono ?_
  rintro e w24 ⟨rfl, d1⟩
  have K := Lib.hid (K.out.trans d1.kp (fun _ h => h.elim))
  have hc : w24.cell? ⟨gB, 8, none⟩ = some (.slice none 0 0) := (HB.out.kp K.out).n8
  clear d1
  go_wp2_with fail
  refine (markedBytes_none _).mono ?_
  rintro e w25 ⟨rfl, d1⟩
  have KW := Lib.hid ((KW.out.trans K.out (fun _ h => h.elim)).trans d1.kp (fun _ h => h.elim))
  clear d1 hc
  go_wp2_with fail
  go_ret
  exact ⟨rfl, KW.out⟩

end Go.Proofs.Ytbhjckhhmcfpfaa

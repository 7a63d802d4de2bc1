/- Arms for the walks: append(v, xs...) of whole slices and of structs. No statement of the seat is proved here. -/
import Derived.Test.YtbhjckhhmcfpfaaInts
import Derived.Laws.AppendOwnNone
import Derived.Deep.CutRange
import Derived.Deep.DeepCutAuto
import Derived.Deep.CutBlock
import Derived.Deep.AppendLies
import Derived.Deep.RegionLaw
import Derived.Deep.RegionHeld3
namespace Go.Proofs.Ytbhjckhhmcfpfaa
open Go.RowKit
set_option linter.unusedVariables false
set_option linter.unusedSimpArgs false

section
variable {P : Program} {ops : Array Oper} {rest : List Oper} {o : Oper} {a : Act} {Q : Exit → Act → World → Prop}
/-- append(v, xs...), v owned, xs any slice that reads as news (m elements of size cells): at 'at_builtin'. -/
theorem appN {W : World} (base : Nat) (hgd : o.guard = none) (s x : Operand) (t e : TypeId) (z : Value) (size bytes : Nat)
    (ho : o.op = .call { callee := .builtin .append, args := #[s, x], argTypes := #[t, t] })
    (ht : P.underlying t = some (.slice e)) (hinfo : (P.info? e).map (fun i => (i.zero, i.size, i.bytes)) = some (some z, size, bytes)) (hz : z.cells.size = size) (hs0 : 0 < size) (hb0 : 0 < bytes)
    (v : Value) (n : Nat) (xs : List Value) (A : Option Addr) (m c : Nat) (news : List Value) (hs : a.eval s = v) (hx : a.eval x = .slice A m c) (hnone : A = none → m = 0 ∧ c = 0)
    (HR : RdS W A news) (hl : news.length = m * size) (h1 : ∀ u ∈ news, u.oneCell' = true)
    (HO : W.ownsRow base e size v n xs) (hbase : base ≤ W.heap.size) (hbytes : (n + m) * bytes ≤ 140737488355328)
    (h : ∀ v1 w1, w1.ownsRow base e size v1 (n + m) (xs ++ news) → W.grownBy w1 v.ownBlock → (∀ k, v1.ownBlock = some k → v.ownBlock = some k ∨ W.heap.size ≤ k) → wpList P ops Q rest (a.put o.dst v1) w1) :
    wpList P ops Q (o :: rest) a W := by
  obtain ⟨i0, hi, hzz⟩ := Option.map_eq_some_iff.1 hinfo
  simp only [Prod.mk.injEq] at hzz
  obtain ⟨hz0, hz1, hz2⟩ := hzz
  have hlen : n + m ≤ 140737488355328 := Nat.le_trans (Nat.le_mul_of_pos_right _ hb0) hbytes
  cases A with
  | none =>
    obtain ⟨rfl, rfl⟩ := hnone rfl
    obtain rfl : news = [] := List.eq_nil_of_length_eq_zero (by simpa using hl)
    refine wpList_append_own_none hgd s x t ho base e i0 size ht hi v n xs hs HO hx ?_
    refine h v W (by simpa using HO) ⟨rfl, rfl, rfl, Nat.le_refl _, fun _ _ _ => rfl⟩ (fun k hk => .inl hk)
  | some ad =>
    refine wpList_append_own_at W hgd s x t ho base e i0 z size bytes ht hi hz0 hz1 hz2 hz hs0 v n xs hs HO ad m c news hx hl (fun j u hj => ?_) h1 (by simp only [maxLen]; omega) hbytes hbase ?_
    · obtain ⟨b, o2, hA, hc⟩ := HR j u hj
      injection hA with hA
      subst hA
      rw [Addr.add_lit]
      exact hc
    · intro v1 w1 hown hg _ hat
      refine h v1 w1 hown hg (fun k hk => ?_)
      rcases hat with hat | hat
      · exact .inl (hat ▸ hk)
      · rw [hat] at hk
        simp at hk
        omega
end

theorem RdS.blk {w : World} {g : Nat} {cs : Array Value} {t : TypeId} (h : w.heap[g]? = some (.cells cs t (0, 0))) : RdS w (some ⟨g, 0, none⟩) cs.toList := by
  intro j x hj
  refine ⟨g, 0, rfl, ?_⟩
  rw [Nat.zero_add, blk_cell h j]
  simpa using hj
theorem RdS.new (w : World) (cs : Array Value) (t : TypeId) : RdS (w.alloc (.cells cs t)) (some ⟨w.heap.size, 0, none⟩) cs.toList := RdS.blk (blk_new w (.cells cs t))
theorem RdS.ofAlloc {w : World} {A : Option Addr} {vs : List Value} (h : RdS w A vs) (o : Obj) : RdS (w.alloc o) A vs := h.kp ((Kp.refl (fun _ => False) w).alloc o) (fun _ _ _ h => h)
theorem RdS.nil (w : World) (A : Option Addr) : RdS w A [] := fun j x h => by simp at h
theorem strs_one (l : List ByteArray) : ∀ u ∈ l.map Value.string, u.oneCell' = true := by
  intro u hu
  obtain ⟨s, _, rfl⟩ := List.mem_map.1 hu
  rfl
theorem ints_one (k : IntKind) (l : List Int) : ∀ u ∈ ints k l, u.oneCell' = true := by
  intro u hu
  obtain ⟨s, _, rfl⟩ := List.mem_map.1 hu
  rfl
/-- An owned slice whose base was chosen too low or too high. -/
theorem own_base {w : World} {b1 b2 n size : Nat} {e : TypeId} {v : Value} {xs : List Value} (h : w.ownsRow b1 e size v n xs) (hb : ∀ k, v.ownBlock = some k → b2 ≤ k) : w.ownsRow b2 e size v n xs := by
  refine ⟨h.1, ?_⟩
  rcases h.2 with h2 | ⟨g, cap, cur, rfl, hg, r⟩
  · exact .inl h2
  · exact .inr ⟨g, cap, cur, rfl, hb g rfl, r⟩
theorem own_low {w : World} {b1 b2 n size : Nat} {e : TypeId} {v : Value} {xs : List Value} (h : w.ownsRow b1 e size v n xs) (hb : b2 ≤ b1) : w.ownsRow b2 e size v n xs :=
  own_base h fun k hk => Nat.le_trans hb (h.lt k hk).1
/-- The capacity of what is owned and nil. -/
theorem own_nil {w : World} {base n c size : Nat} {e : TypeId} {A : Option Addr} {xs : List Value} (h : w.ownsRow base e size (.slice A n c) n xs) : A = none → n = 0 ∧ c = 0 := by
  rintro rfl
  rcases h.2 with ⟨h1, h2⟩ | ⟨g, cap, cur, h1, _⟩
  · injection h1 with _ _ h3
    exact ⟨h2, h3⟩
  · cases h1

theorem le_alloc (w : World) (o : Obj) : w.heap.size ≤ (w.alloc o).heap.size := by simp
theorem le_alloc_drew (w : World) (o : Obj) : w.heap.size ≤ (w.alloc o).drew.heap.size := by simp
theorem blk_new_drew (w : World) (o : Obj) : (w.alloc o).drew.heap[w.heap.size]? = some o := heap_alloc_new w o
section
variable {P : Program}
/-- append(v, y), v owned: at a step of a region that draws. -/
theorem sapp1 {w : World} {ops : Array Oper} {o : Oper} {a : Act} {K : Act → World → Prop} {Q : Exit → Act → World → Prop} {E : Prop} (base : Nat) (hgd : o.guard = none) (s x : Operand) (t e : TypeId) (z : Value) (bytes : Nat)
    (ho : o.op = .call { callee := .builtin .append, args := #[s, x], argTypes := #[t, t] })
    (ht : P.underlying t = some (.slice e)) (hinfo : (P.info? e).map (fun i => (i.zero, i.size, i.bytes)) = some (some z, 1, bytes)) (hz : z.cells.size = 1) (hb0 : 0 < bytes)
    (v : Value) (n : Nat) (xs : List Value) (y : Value) (hs : a.eval s = v) (B : Nat) (hx : a.eval x = .slice (some ⟨B, 0, none⟩) 1 1) (h1 : y.oneCell' = true)
    (HO : w.ownsRow base e 1 v n xs) (hb : w.heap[B]? = some (.cells #[y] e (0, 0))) (hbase : base ≤ w.heap.size) (hl : (n + 1) * bytes ≤ 140737488355328)
    (h : ∀ v1 w1, w1.ownsRow base e 1 v1 (n + 1) (xs ++ [y]) → w.grownBy w1 v.ownBlock → (∀ k, v1.ownBlock = some k → v.ownBlock = some k ∨ w.heap.size ≤ k) → K (a.put o.dst v1) w1) :
    if Region.wanted o (yielded ops a.tmps) = true then Oper.wp P o a w K Q else E := by
  obtain ⟨i0, hi, hzz⟩ := Option.map_eq_some_iff.1 hinfo
  simp only [Prod.mk.injEq] at hzz
  obtain ⟨hz0, hz1, hz2⟩ := hzz
  have hlen : n + 1 ≤ 140737488355328 := Nat.le_trans (Nat.le_mul_of_pos_right _ hb0) hl
  refine step_append_lies w hgd s x t ho base e i0 z 1 bytes ht hi hz0 hz1 hz2 hz (by omega) v n xs hs HO ⟨B, 0, none⟩ 1 1 [y] hx rfl (World.news_of_block hb) (by simpa using h1) (by omega) (by simp only [maxLen]; omega) hl hbase _ rfl ?_
  intro g cap w' hown hg hat _
  refine h _ w' hown hg (fun k hk => ?_)
  have : g = k := by simpa [Value.ownBlock] using hk
  subst this
  rcases hat with hat | hat
  · exact .inl hat
  · exact .inr (by omega)
end

theorem wrap_byteK (b : ByteArray) (i : Nat) (h : i < b.size) : IntKind.i64.wrap (b[i].toNat : Int) = ((b.data.toList.getD i 0).toNat : Int) := by
  have hl : i < b.data.toList.length := by rw [Array.length_toList]; exact h
  have e : b.data.toList.getD i 0 = b[i] := by
    rw [List.getD_eq_getElem?_getD, List.getElem?_eq_getElem hl]
    rfl
  rw [e, IntKind.wrap_i64]
  have := b[i].toNat_lt
  omega
section
variable {P : Program}
/-- A call of a Go function, at a step of a region that draws. -/
theorem step_call {w : World} {ops : Array Oper} {o : Oper} {a : Act} {K : Act → World → Prop} {Q : Exit → Act → World → Prop} {E : Prop} (hg : o.guard = none) (f : Nat) (fn : Func) (hf : P.funcs[f]? = some fn) (hname : (fn.name == "runtime.NumGoroutine") = false) (hb : fn.body.isSome = true) (args : Array Operand) (tys : Array TypeId)
    (ho : o.op = .call { callee := .value (.func f), args := args, argTypes := tys }) (vs : List Value) (hvs : args.toList.map a.eval = vs)
    (h : Calls P f vs.toArray w fun e w' => ∃ v, e = .returned v ∧ K (a.put o.dst v) w') :
    if Region.wanted o (yielded ops a.tmps) = true then Oper.wp P o a w K Q else E := by
  have hw : Region.wanted o (yielded ops a.tmps) = true := by simp [Region.wanted, hg]
  rw [if_pos hw]
  obtain ⟨c, hc⟩ := Option.isSome_iff_exists.1 hb
  have h1 : fn.name ≠ "runtime.NumGoroutine" := by simpa using hname
  have hr : (execOp a.eval o).run P w = .ok (.enter f vs.toArray) w := by
    have he : execOp a.eval o = callFunc f (#[] ++ args.map a.eval ++ #[]) := by
      unfold execOp
      rw [ho]
      rfl
    have hm : args.map a.eval = vs.toArray := by rw [← hvs]; apply Array.toList_inj.1; simp
    rw [he, hm]
    simp [callFunc, hf, h1, hc]
  unfold Oper.wp
  rw [hr, Oper.upon_enter]
  exact h.mono fun e w' ⟨v, he, hk⟩ => by subst he; exact hk
end

end Go.Proofs.Ytbhjckhhmcfpfaa

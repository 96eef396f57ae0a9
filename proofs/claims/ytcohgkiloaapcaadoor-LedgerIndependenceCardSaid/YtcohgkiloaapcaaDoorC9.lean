/- Contracts: decode, with its deferred closure; DecodeEntry. -/
import Derived.Test.YtcohgkiloaapcaaDoorC8
namespace Go.Proofs.YtcohgkiloaapcaaDoor
open Go.RowKit

theorem wpS_gen {P : Program} {c : Code} {Q : Exit → Act → List Frame → World → Prop} {a : Act} {cs : List Frame} {w : World} (good : Exit → Act → World → Prop)
    (h : ∀ R : Exit → Act → World → Prop, (∀ e a' w', good e a' w' → R e a' w') → c.wp P R a w) (hq : ∀ e a' w', good e a' w' → Q e a' cs w') : c.wpS P Q a cs w :=
  fun b k _ _ => let ⟨e, a', w', q, r⟩ := h good (fun _ _ _ h => h) b k cs; ⟨e, a', cs, w', hq _ _ _ q, r⟩

theorem assert121 (v : Value) (W : World) : (Instr.typeAssert (.iface 121 v) 20 121 true).run Tryd.prog W = .ok (.tuple #[v, .bool true]) W := by
  simp [Instr.typeAssert, run_underlying Tryd.underlying121, Sem.run_bind, Result.andThen, go_sem]

/-- The closure found a panic: its code lies in the second result's cell. -/
def Caught (p q : Nat) (cd : Nat) (w : World) (e : Exit) (a' : Act) (w' : World) : Prop :=
  e = .normal ∧ a'.defers = [] ∧ w'.cell? ⟨p, 0, none⟩ = some (.int .i64 0) ∧ w'.cell? ⟨q, 0, none⟩ = some (.int .i64 cd) ∧ Below (min p q) w w'

set_option maxRecDepth 20000 in
theorem catch_idle (p q : Nat) (w : World) :
    CallsD Tryd.prog 67 #[.pointer (some ⟨p, 0, none⟩), .pointer (some ⟨q, 0, none⟩)] .returning w fun e u' w' => e = .returned (.tuple #[]) ∧ u' = .returning ∧ w' = w := by
  refine callsD_of_wpS Tryd.func67 rfl fun c₀ cs hu => ?_
  simp only [Tryd.ntmps67, List.size_toArray, List.length_cons, List.length_nil, Nat.reduceAdd, Nat.reduceSub, Array.replicate_succ, Array.replicate_zero, List.push_toArray, List.append_toArray, List.nil_append, List.cons_append]
  apply wpS_seq
  apply wpS_region
  simp [wpOpsS, go_sem, recoverD, hu, Tryd.ntmps67, Exit.thenS]
  refine wpS_gen (fun e a' w' => e = .normal ∧ a'.defers = [] ∧ w' = w) (fun R hR => ?_) ?_
  · go_wp2_with fail
  · rintro e a' w' ⟨rfl, h, rfl⟩
    cases c₀
    simp_all [bodyPostS, results, Tryd.results67]

theorem one_cell {w : World} {p : Nat} {v : Value} {t : TypeId} (h : w.heap[p]? = some (.cells #[v] t (0, 0))) : w.cell? ⟨p, 0, none⟩ = some v ∧ w.frozen? ⟨p, 0, none⟩ = false :=
  ⟨cell_of_row w p 0 _ t (0, 0) h, by simp [World.frozen?, h]⟩

set_option maxRecDepth 20000 in
theorem catch_panicking (p q : Nat) (x y : Int) (cd : Nat) (w : World) (hp : w.heap[p]? = some (.cells #[.int .i64 x] 3 (0, 0))) (hq : w.heap[q]? = some (.cells #[.int .i64 y] 30 (0, 0))) (hne : p ≠ q) :
    CallsD Tryd.prog 67 #[.pointer (some ⟨p, 0, none⟩), .pointer (some ⟨q, 0, none⟩)] (.panicking [{ v := .iface 121 (.agg #[.int .i64 cd]), recovered := false }]) w fun e u' w' => e = .returned (.tuple #[]) ∧ u' = .panicking [{ v := .iface 121 (.agg #[.int .i64 cd]), recovered := true }] ∧ w'.cell? ⟨p, 0, none⟩ = some (.int .i64 0) ∧ w'.cell? ⟨q, 0, none⟩ = some (.int .i64 cd) ∧ Below (min p q) w w' := by
  refine callsD_of_wpS Tryd.func67 rfl fun c₀ cs hu => ?_
  simp only [Tryd.ntmps67, List.size_toArray, List.length_cons, List.length_nil, Nat.reduceAdd, Nat.reduceSub, Array.replicate_succ, Array.replicate_zero, List.push_toArray, List.append_toArray, List.nil_append, List.cons_append]
  apply wpS_seq
  apply wpS_region
  simp [wpOpsS, go_sem, recoverD, hu, Tryd.ntmps67, Exit.thenS]
  refine wpS_gen (Caught p q cd w) (fun R hR => ?_) ?_
  · have hta := fun W => assert121 (.agg #[.int .i64 cd]) W
    have hB := below_al w (.cells #[.int .i64 cd] 121)
    have hpl : p < w.heap.size := (Array.getElem?_eq_some_iff.1 hp).1
    have hql : q < w.heap.size := (Array.getElem?_eq_some_iff.1 hq).1
    obtain ⟨c1, f1⟩ := one_cell ((hB.block p hpl).trans hp)
    obtain ⟨c2, f2⟩ := one_cell ((hB.block q hql).trans hq)
    obtain ⟨c3, f3⟩ := one_cell hp
    obtain ⟨c4, f4⟩ := one_cell hq
    have HP := Lib.hid hp
    have HQ := Lib.hid hq
    clear hp hq
    go_wp2_with fail
    go_region
    refine hR _ _ _ ⟨rfl, rfl, ?_, ?_, ?_⟩
    · have h1 := heap_setCell_same w p 0 _ 3 (.int .i64 0) HP.out
      have h2 := (heap_setCell_other (w.setCell ⟨p, 0, none⟩ (.int .i64 0)) ⟨q, 0, none⟩ p (.int .i64 cd) hne).trans h1
      exact (one_cell (((below_al _ _).block p (by simpa using hpl)).trans h2)).1
    · have h1 := (heap_setCell_other w ⟨p, 0, none⟩ q (.int .i64 0) (Ne.symm hne)).trans HQ.out
      have h2 := heap_setCell_same (w.setCell ⟨p, 0, none⟩ (.int .i64 0)) q 0 _ 30 (.int .i64 cd) h1
      exact (one_cell (((below_al _ _).block q (by simpa using hql)).trans h2)).1
    · have h := (((Below.refl (min p q) w).setCell (p := ⟨p, 0, none⟩) (Nat.min_le_left p q) (.int .i64 0)).setCell (p := ⟨q, 0, none⟩) (Nat.min_le_right p q) (.int .i64 cd)).alloc (by simp; omega) (.cells #[.int .i64 cd] 121)
      exact ⟨h.os, h.tape, h.output, h.size, h.block⟩
  · rintro e a' w' ⟨rfl, h, h1, h2, h3⟩
    cases c₀
    simp_all [bodyPostS, results, Tryd.results67]
end Go.Proofs.YtcohgkiloaapcaaDoor

/- Contracts: the reference's Made. -/
import Derived.Test.YtcohgkiloaapcaaDoorI0
namespace Go.Proofs.YtcohgkiloaapcaaDoor
open Go.RowKit

/-- Entries as Made hands them back. -/
def Goods (w : World) (ys : List Rec) : Prop := ∀ y, y ∈ ys → VE y.E ∧ y.err = none ∧ Bs w y.A y.m y.c y.E.body
/-- What Made hands back: a new row of entries that may be encoded. -/
def MadeQ (w : World) (n b : Nat) (e : Ending) (w' : World) : Prop :=
  ∃ A m c ys, e = .returned (.slice A m c) ∧ Es w' A m c ys ∧ w'.ownsRow w.heap.size 25 3 (.slice A m c) m (rowsOf ys) ∧ m ≤ n ∧ m ≤ b ∧ Goods w ys ∧ Below w.heap.size w w'
theorem rowsOf_snoc (ys : List Rec) (y : Rec) : rowsOf (ys ++ [y]) = rowsOf ys ++ newE y := by simp [rowsOf, newE]
theorem rowsOf_length (ys : List Rec) : (rowsOf ys).length = ys.length * 3 := by
  induction ys with
  | nil => rfl
  | cons y ys ih =>
    have e : rowsOf (y :: ys) = newE y ++ rowsOf ys := by simp [rowsOf, newE]
    rw [e, List.length_append, ih, List.length_cons]
    simp [newE]; omega
theorem rowsOf_one (ys : List Rec) : ∀ u ∈ rowsOf ys, u.oneCell' = true := by
  intro u hu
  obtain ⟨y, _, hy⟩ := List.mem_flatMap.1 hu
  simp only [List.mem_cons, List.not_mem_nil, or_false] at hy
  rcases hy with rfl | rfl | rfl <;> simp [Value.oneCell']
theorem newE_one (y : Rec) : ∀ u ∈ newE y, u.oneCell' = true := by
  intro u hu
  simp only [newE, List.mem_cons, List.not_mem_nil, or_false] at hu
  rcases hu with rfl | rfl | rfl <;> simp [Value.oneCell']
theorem Goods.snoc {w : World} {ys : List Rec} {y : Rec} (h : Goods w ys) (hy : VE y.E ∧ y.err = none ∧ Bs w y.A y.m y.c y.E.body) : Goods w (ys ++ [y]) := by
  intro z hz
  rcases List.mem_append.1 hz with hz | hz
  · exact h z hz
  · obtain rfl : z = y := by simpa using hz
    exact hy
theorem Es.ofOwn {w0 w : World} {A : Option Addr} {n c : Nat} {ys : List Rec} (h : w.ownsRow w0.heap.size 25 3 (.slice A n c) n (rowsOf ys)) (hn : ys.length = n) (hg : ∀ y, y ∈ ys → Bs w y.A y.m y.c y.E.body) : Es w A n c ys := by
  obtain ⟨A', c', hv, h1, h2⟩ := own_shape h
  injection hv with hA _ hc
  subst hA; subst hc
  exact ⟨hn, h1, by simpa [maxLen] using h2, Rd.own h, hg⟩

set_option maxRecDepth 20000 in
set_option maxHeartbeats 1000000 in
theorem made (A : Option Addr) (n c b : Nat) (xs : List Rec) (w : World) (hE : Es w A n c xs) (hn : n ≤ 140737488355328) (hb : b ≤ 1000) (hk : ∀ x, x ∈ xs → x.E.key.length ≤ 140737488355328 ∧ x.m ≤ 140737488355328) :
    Calls Tryd.prog 12 #[.slice A n c, .int .i64 b] w (MadeQ w n b) := by
  have hL := Lib.hid hE.len
  go_enter Tryd.func12, Tryd.ntmps12
  go_wp2_with fail
  go_loopw [5, 6] (fun v s wr => ∃ (i : Nat) (ys : List Rec), s = .int .i64 i ∧ ys.length = i ∧ i ≤ n ∧ i ≤ b ∧ wr.ownsRow w.heap.size 25 3 v i (rowsOf ys) ∧ Goods w ys ∧ Below w.heap.size w wr) (fun _ s _ => n - (intOf s).toNat)
  case atStart => exact ⟨0, [], rfl, rfl, by omega, by omega, own_empty w 25 3, fun y hy => (by cases hy), below_al w _⟩
  case round =>
    obtain ⟨i, ys, rfl, hyl, hin, hib, hown, hgood, hB⟩ := hrel
    obtain ⟨Av, cv, rfl, -, -⟩ := own_shape hown
    have HY := Lib.hid hyl
    clear hyl
    by_cases hlt : i < n
    · have hlti : (i : Int) < n := by omega
      by_cases hltb : i < b
      · have hltbi : (i : Int) < b := by omega
        have hil : i < xs.length := by rw [hL.out]; exact hlt
        obtain ⟨bb, o, rfl, hr⟩ := es_range (hE.below hB) (by omega)
        have hri := hr i hil
        have hbd := hE.bd _ (List.getElem_mem hil)
        have hkx := hk _ (List.getElem_mem hil)
        generalize xs[i] = x at *
        unfold newE at hri
        rw [show o + 3 * i = o + i * 3 by omega] at hri
        have hc25 := madeEntry x.E.kind (strOf x.E.key) x.A x.m x.c wr hbd.le (by rw [strOf_size]; exact hkx.1) hkx.2 x.E.body (hbd.below hB)
        have hib1 : i + 1 ≤ 1001 := by omega
        have HB := Lib.hid hB
        clear hE hr hk hkx
        go_wp2_with (first | ((with_reducible refine load3o bb (o + i * 3) x.E.kind (strOf x.E.key) x.A x.m x.c ?_ ?_ ?_); exact rfl; exact hri) | (go_at_call 25; go_must (refine hc25.mono ?_); rintro e w1 ⟨y, rfl, hv, hbs, herr, hB1⟩; rw [show (newE y).toArray = #[.int .i64 y.E.kind, .string (strOf y.E.key), .slice y.A y.m y.c] from rfl]; have hownA := own_below hown hB1; have hBA := below_then hB hB1) | (at_builtin; refine wpList_of_append rfl _ _ 23 rfl rfl rfl (run_own w _ 23 23 25 _ 3 48 Tryd.underlying23 infoE25 rfl (by decide) (by decide) _ _ _ (hownA.alloc _) (hBA.alloc hBA.size _) _ 1 1 (newE y) rfl (Rd.new _ _ _ _) (newE_one y) (by omega)) ?_))
        intro v' w2 hown2 hB2
        go_wp2_with fail
        go_roundw
        case rel => exact ⟨i + 1, ys ++ [y], rfl, by rw [List.length_append, HY.out]; rfl, by omega, by omega, by rw [rowsOf_snoc]; exact hown2, hgood.snoc ⟨hv, herr, hbs w hbd⟩, hB2⟩
        case measure => simp [intOf]; omega
      · obtain rfl : i = b := by omega
        go_wp2_with fail
        go_ret
        exact ⟨Av, i, cv, ys, rfl, Es.ofOwn hown HY.out (fun y hy => (hgood y hy).2.2.below hB), hown, by omega, by omega, hgood, hB⟩
    · obtain rfl : i = n := by omega
      go_wp2_with fail
      go_ret
      exact ⟨Av, i, cv, ys, rfl, Es.ofOwn hown HY.out (fun y hy => (hgood y hy).2.2.below hB), hown, by omega, by omega, hgood, hB⟩
end Go.Proofs.YtcohgkiloaapcaaDoor

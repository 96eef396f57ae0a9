/- An array of two bytes, opened: for the rows of the laws. -/
import Derived.Test.YtcohgkiloaapcaaDoorS0
import Derived.OpenShut
namespace Go.Proofs.YtcohgkiloaapcaaDoor
open Go.ChangeShapes Go.WideShapes Go.RowKit Go.Deep

theorem underlying50 : Tryd.prog.underlying 50 = some (.array 2 5) := by kernel_rfl
section
variable {H : Type} {enc : TypeId × Value → H} {W : World} {base : Nat} {held : Bool}

theorem okWide_array {P : Program} {w : World} {r : Reach} {b0 : Nat} {t e : TypeId} {n : Nat} {v : Value} (ht : P.underlying t = some (.array n e)) (h : Value.okWide P w r b0 t v) : ∃ cs, v = .agg cs ∧ cs.size = P.cellsOf t := by
  simp only [Value.okWide, ht] at h
  obtain ⟨cs, h1, h2, _⟩ := h
  exact ⟨cs, h1, h2⟩

set_option maxRecDepth 100000 in
theorem open_two {fuel : Nat} {cs : List Value} {x : DataW H × List MemPlace} (h : DataW.trod enc Tryd.prog W base (fun _ => true) held fuel 50 cs = some x) :
    ∃ z0 z1 : Int, cs = [.int .u8 z0, .int .u8 z1] ∧ (0 ≤ z0 ∧ z0 < 256) ∧ (0 ≤ z1 ∧ z1 < 256) := by
  obtain ⟨xs, n, _, hx, hlen, hxl, hf⟩ := DataW.trod_array underlying50 h
  have hc : Tryd.prog.cellsOf 50 = 2 := by kernel_rfl
  have hc5 : Tryd.prog.cellsOf 5 = 1 := by kernel_rfl
  rw [hc] at hlen
  match cs, hlen with
  | [c0, c1], _ =>
    match xs, hxl with
    | [x0, x1], _ =>
      have f0 := hf 0 (by decide)
      have f1 := hf 1 (by decide)
      rw [hc5] at f0 f1
      simp only [Nat.zero_mul, Nat.one_mul, List.drop_zero, List.drop_succ_cons, List.take_succ_cons, List.take_zero, List.getElem?_cons_zero, List.getElem?_cons_succ] at f0 f1
      obtain ⟨z0, h0, _, hw0⟩ := DataW.trod_int Tryd.underlying5 f0
      obtain ⟨z1, h1, _, hw1⟩ := DataW.trod_int Tryd.underlying5 f1
      simp only [List.cons.injEq, and_true] at h0 h1
      exact ⟨z0, z1, by rw [h0, h1], u8_wf hw0, u8_wf hw1⟩
end
end Go.Proofs.YtcohgkiloaapcaaDoor

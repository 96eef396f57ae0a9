/- LedgerIndependence holds: for every sequence of entries and every two entries that can be read as data, in whatever memory in which errors.errorType holds what the program laid there (the card ties that to the program's text), the call returns true and leaves its arguments as they were. -/
import Derived.Test.YtcohgkiloaapcaaDoorS0
import Derived.Test.YtcohgkiloaapcaaDoorP7
import Derived.Test.YtcohgkiloaapcaaDoorCards
import Derived.Test.YtcohgkiloaapcaaDoorTie
import Derived.SevenTiedAt
namespace Go.Proofs.YtcohgkiloaapcaaDoor
open Go.ChangeShapes Go.WideShapes Go.RowKit Go.Deep

set_option maxRecDepth 100000 in
theorem ledgerIndependence_lifted (os : Os) (started : os.Started) (H : Type) (enc : TypeId × Value → H) :
    ReturnsInHanded {} Tryd.checked os 10 .any (fun w args => (Rows.ledgerIndependenceSpec.pre enc Tryd.prog Tryd.f10 [] false w args ∧ laidMetH Tryd.prog laidL w) ∧ sizedMet enc Tryd.prog Tryd.f10 (OpenSpec.ofChange Rows.ledgerIndependenceSpec) false w args)
      (Rows.ledgerIndependenceSpec.post enc Tryd.prog Tryd.f10 false true false false) := by
  refine returnsInHanded_of_change_and (C := Tryd.checked) (X := fun w _ => laidMetH Tryd.prog laidL w) (fun _ _ _ hh h => h.of_heap hh) own started (by kernel_rfl) Tryd.func10
    (ChangeSpec.witness_at (enc := enc) (C := Tryd.checked) (os := os) (X := fun w _ => laidMetH Tryd.prog laidL w) false (laidWorld os) #[.slice none 0 0, .agg #[.int .i64 0, .string ByteArray.empty, .slice none 0 0], .agg #[.int .i64 0, .string ByteArray.empty, .slice none 0 0]] 8 rfl (by kernel_rfl) (by kernel_rfl) (by kernel_rfl) (by kernel_rfl) (by kernel_rfl) (laidWorld_met os _)) ?_
  intro W base args ds gs before hval hW _ hwt hL _
  have hval : ∀ (j : Nat) t v, Tryd.f10.params[j]? = some t → args[j]? = some v → Value.okWide Tryd.prog W .any base t v := hval
  have hwt : (DataW.weightsEach Tryd.prog (Tryd.f10.params.toList ++ []) (ds ++ gs)).all (· ≤ reachBytes) = true := hwt
  have hW' := hW
  obtain ⟨p, q, hA, hV, rfl, _, _⟩ := hW
  have hA : DataW.TrodAll enc Tryd.prog W 0 (fun _ => true) true Tryd.f10.params.toList args.toList ds p := hA
  rw [Tryd.params10] at hA hval hwt
  obtain ⟨v0, vs0, d0, ds0, p0, q0, hvs0, rfl, rfl, h0, r0⟩ := trodAll_cons hA
  obtain ⟨v1, vs1, d1, ds1, p1, q1, hvs1, rfl, rfl, h1, r1⟩ := trodAll_cons r0
  obtain ⟨v2, vs2, d2, ds2, p2, q2, hvs2, rfl, rfl, h2, r2⟩ := trodAll_cons r1
  obtain ⟨rfl, rfl, rfl⟩ := trodAll_nil r2
  obtain rfl : args = #[v0, v1, v2] := by
    cases args
    simp_all
  obtain ⟨rfl, rfl⟩ : gs = [] ∧ q = [] := by
    cases gs with
    | nil => exact ⟨rfl, hV⟩
    | cons g r => exact absurd hV (by intro h; cases h)
  have hb : ∀ (j : Nat) (t : TypeId) (d : DataW H), [(23 : TypeId), (25 : TypeId), (25 : TypeId)][j]? = some t → [d0, d1, d2][j]? = some d → ∀ n ∈ d.weights Tryd.prog t, n ≤ reachBytes := fun j t d ht hd n hn => by
    have := List.all_eq_true.1 hwt n (DataW.weights_mem_each (t := t) (j := j) ht hd n hn)
    simpa using this
  obtain ⟨A0, n0, c0, rfl⟩ := okWide_slice Tryd.underlying23 (hval 0 23 v0 rfl rfl)
  obtain ⟨f0, h0⟩ := h0
  obtain ⟨A0', n0', c0', xs0, e0, hE0⟩ := open_entries h0 (hb 0 23 d0 rfl rfl)
  obtain ⟨rfl, rfl, rfl⟩ : A0 = A0' ∧ n0 = n0' ∧ c0 = c0' := by simpa [Value.cells] using e0
  obtain ⟨cs1, rfl, hsz1⟩ := okWide_struct Tryd.underlying25 (hval 1 25 v1 rfl rfl)
  obtain ⟨f1, h1⟩ := h1
  obtain ⟨y1, e1, hy1, hk1, hm1⟩ := open_entry h1 (hb 1 25 d1 rfl rfl)
  obtain rfl : cs1 = (newE y1).toArray := by
    cases cs1
    simpa [Value.cells] using e1
  obtain ⟨cs2, rfl, hsz2⟩ := okWide_struct Tryd.underlying25 (hval 2 25 v2 rfl rfl)
  obtain ⟨f2, h2⟩ := h2
  obtain ⟨y2, e2, hy2, hk2, hm2⟩ := open_entry h2 (hb 2 25 d2 rfl rfl)
  obtain rfl : cs2 = (newE y2).toArray := by
    cases cs2
    simpa [Value.cells] using e2
  refine (law_Independence A0 n0 c0 xs0 y1 y2 W hE0 hy1 hk1 hm1 hy2 hk2 hm2 (gok_of_laid hL)).mono fun e W' ⟨he, hB⟩ => ?_
  subst he
  refine ⟨_, rfl, post_law hW' rfl rfl ?_ rfl hB⟩
  rw [Tryd.params10]
  intro t ht
  simp only [List.mem_cons, List.not_mem_nil, or_false] at ht
  have hr : ∀ t : TypeId, t ∈ [(22 : TypeId), 23, 25, 44, 5, 50] → Tryd.prog.readableRec t = true ∧ t < Tryd.prog.types.size := readables
  rcases ht with rfl | rfl | rfl <;> exact hr _ (by decide)

theorem ledgerIndependence_said : Rows.LedgerIndependenceSaid :=
  OpenClaim.holds_of_wide 10 Tryd.f10 rfl rfl rfl rfl rfl rfl rfl ⟨rfl, rfl, rfl, rfl, rfl⟩ rfl rfl rfl rfl rfl (by kernel_rfl) Tryd.func10 (by kernel_rfl)
    (of_decide_eq_true (by kernel_rfl)) (by unfold Func.isWrapper; rw [if_neg (of_decide_eq_false (by kernel_rfl))]; exact ⟨rfl, rfl⟩)
    (fun os started H enc _ => ledgerIndependence_lifted os started H enc)

/-- No parameter wants a stand-in; the program's own looks are on. -/
theorem ledgerIndependence_plain (f : FuncId) (fn : Func) (hf : Tryd.pinned.checked.prog.funcNamed "armillary/armillarylaw28.LedgerIndependence" = some f) (hfn : Tryd.pinned.checked.prog.funcs[f]? = some fn) :
    true = Tryd.pinned.checked.prog.looks [] ∧ ∀ (j : Nat) t, fn.params[j]? = some t → Tryd.pinned.checked.prog.wantsStandIn t = false := by
  obtain rfl : f = 10 := Option.some.inj ((show Tryd.prog.funcNamed "armillary/armillarylaw28.LedgerIndependence" = some 10 by kernel_rfl).symm.trans hf) |>.symm
  obtain rfl : fn = Tryd.f10 := (Option.some.inj (Tryd.func10.symm.trans hfn)).symm
  refine ⟨by kernel_rfl, fun j t ht => ?_⟩
  rw [Tryd.params10] at ht
  have hm : t ∈ [(22 : TypeId), 23, 25, 44, 5, 50] := by
    have h1 : t ∈ [(23 : TypeId), (25 : TypeId), (25 : TypeId)] := by simpa using Array.mem_of_getElem? ht
    simp only [List.mem_cons, List.not_mem_nil, or_false] at h1 ⊢
    rcases h1 with rfl | rfl | rfl <;> decide
  exact noStands t hm

theorem ledgerIndependence_holds : Rows.LedgerIndependenceCardSaid :=
  Claim7.holds_tied_plain_at .later [] _ _ _ _ ledgerIndependence_said (fun _ h => by cases h) (by kernel_rfl) (fun _ h => by cases h) ledgerIndependence_row_tie rfl ⟨rfl, rfl⟩ (by kernel_rfl) rfl ledgerIndependence_plain (by kernel_rfl)
#print axioms ledgerIndependence_holds
end Go.Proofs.YtcohgkiloaapcaaDoor

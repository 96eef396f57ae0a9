/- LedgerRoundTrip holds: for every sequence of entries that can be read as data, in whatever memory in which errors.errorType holds what the program laid there (the card ties that to the program's text), the call returns true and leaves its argument as it was. -/
import Derived.Test.YtcohgkiloaapcaaDoorS0
import Derived.Test.YtcohgkiloaapcaaDoorP0
import Derived.Test.YtcohgkiloaapcaaDoorCards
import Derived.Test.YtcohgkiloaapcaaDoorTie
import Derived.SevenTiedAt
namespace Go.Proofs.YtcohgkiloaapcaaDoor
open Go.ChangeShapes Go.WideShapes Go.RowKit Go.Deep

set_option maxRecDepth 100000 in
theorem ledgerRoundTrip_lifted (os : Os) (started : os.Started) (H : Type) (enc : TypeId × Value → H) :
    ReturnsInHanded {} Tryd.checked os 4 .any (fun w args => (Rows.ledgerRoundTripSpec.pre enc Tryd.prog Tryd.f4 [] false w args ∧ laidMetH Tryd.prog laidL w) ∧ sizedMet enc Tryd.prog Tryd.f4 (OpenSpec.ofChange Rows.ledgerRoundTripSpec) false w args)
      (Rows.ledgerRoundTripSpec.post enc Tryd.prog Tryd.f4 false true false false) := by
  refine returnsInHanded_of_change_and (C := Tryd.checked) (X := fun w _ => laidMetH Tryd.prog laidL w) (fun _ _ _ hh h => h.of_heap hh) own started (by kernel_rfl) Tryd.func4
    (ChangeSpec.witness_at (enc := enc) (C := Tryd.checked) (os := os) (X := fun w _ => laidMetH Tryd.prog laidL w) false (laidWorld os) #[.slice none 0 0] 8 rfl (by kernel_rfl) (by kernel_rfl) (by kernel_rfl) (by kernel_rfl) (by kernel_rfl) (laidWorld_met os _)) ?_
  intro W base args ds gs before hval hW _ hwt hL _
  have hval : ∀ (j : Nat) t v, Tryd.f4.params[j]? = some t → args[j]? = some v → Value.okWide Tryd.prog W .any base t v := hval
  have hwt : (DataW.weightsEach Tryd.prog (Tryd.f4.params.toList ++ []) (ds ++ gs)).all (· ≤ reachBytes) = true := hwt
  have hW' := hW
  obtain ⟨p, q, hA, hV, rfl, _, _⟩ := hW
  have hA : DataW.TrodAll enc Tryd.prog W 0 (fun _ => true) true Tryd.f4.params.toList args.toList ds p := hA
  rw [Tryd.params4] at hA hval hwt
  obtain ⟨v0, vs0, d0, ds0, p0, q0, hvs0, rfl, rfl, h0, r0⟩ := trodAll_cons hA
  obtain ⟨rfl, rfl, rfl⟩ := trodAll_nil r0
  obtain rfl : args = #[v0] := by
    cases args
    simp_all
  obtain ⟨rfl, rfl⟩ : gs = [] ∧ q = [] := by
    cases gs with
    | nil => exact ⟨rfl, hV⟩
    | cons g r => exact absurd hV (by intro h; cases h)
  have hb : ∀ (j : Nat) (t : TypeId) (d : DataW H), [(23 : TypeId)][j]? = some t → [d0][j]? = some d → ∀ n ∈ d.weights Tryd.prog t, n ≤ reachBytes := fun j t d ht hd n hn => by
    have := List.all_eq_true.1 hwt n (DataW.weights_mem_each (t := t) (j := j) ht hd n hn)
    simpa using this
  obtain ⟨A0, n0, c0, rfl⟩ := okWide_slice Tryd.underlying23 (hval 0 23 v0 rfl rfl)
  obtain ⟨f0, h0⟩ := h0
  obtain ⟨A0', n0', c0', xs0, e0, hE0⟩ := open_entries h0 (hb 0 23 d0 rfl rfl)
  obtain ⟨rfl, rfl, rfl⟩ : A0 = A0' ∧ n0 = n0' ∧ c0 = c0' := by simpa [Value.cells] using e0
  refine (law_RoundTrip A0 n0 c0 xs0 W hE0 (gok_of_laid hL)).mono fun e W' ⟨he, hB⟩ => ?_
  subst he
  refine ⟨_, rfl, post_law hW' rfl rfl ?_ rfl hB⟩
  rw [Tryd.params4]
  intro t ht
  simp only [List.mem_cons, List.not_mem_nil, or_false] at ht
  have hr : ∀ t : TypeId, t ∈ [(22 : TypeId), 23, 25, 44, 5, 50] → Tryd.prog.readableRec t = true ∧ t < Tryd.prog.types.size := readables
  subst ht
  exact hr _ (by decide)

theorem ledgerRoundTrip_said : Rows.LedgerRoundTripSaid :=
  OpenClaim.holds_of_wide 4 Tryd.f4 rfl rfl rfl rfl rfl rfl rfl ⟨rfl, rfl, rfl, rfl, rfl⟩ rfl rfl rfl rfl rfl (by kernel_rfl) Tryd.func4 (by kernel_rfl)
    (of_decide_eq_true (by kernel_rfl)) (by unfold Func.isWrapper; rw [if_neg (of_decide_eq_false (by kernel_rfl))]; exact ⟨rfl, rfl⟩)
    (fun os started H enc _ => ledgerRoundTrip_lifted os started H enc)

/-- No parameter wants a stand-in; the program's own looks are on. -/
theorem ledgerRoundTrip_plain (f : FuncId) (fn : Func) (hf : Tryd.pinned.checked.prog.funcNamed "armillary/armillarylaw28.LedgerRoundTrip" = some f) (hfn : Tryd.pinned.checked.prog.funcs[f]? = some fn) :
    true = Tryd.pinned.checked.prog.looks [] ∧ ∀ (j : Nat) t, fn.params[j]? = some t → Tryd.pinned.checked.prog.wantsStandIn t = false := by
  obtain rfl : f = 4 := Option.some.inj ((show Tryd.prog.funcNamed "armillary/armillarylaw28.LedgerRoundTrip" = some 4 by kernel_rfl).symm.trans hf) |>.symm
  obtain rfl : fn = Tryd.f4 := (Option.some.inj (Tryd.func4.symm.trans hfn)).symm
  refine ⟨by kernel_rfl, fun j t ht => ?_⟩
  rw [Tryd.params4] at ht
  have hm : t ∈ [(22 : TypeId), 23, 25, 44, 5, 50] := by
    have h1 : t ∈ [(23 : TypeId)] := by simpa using Array.mem_of_getElem? ht
    simp only [List.mem_cons, List.not_mem_nil, or_false] at h1 ⊢
    subst h1; decide
  exact noStands t hm

theorem ledgerRoundTrip_holds : Rows.LedgerRoundTripCardSaid :=
  Claim7.holds_tied_plain_at .later [] _ _ _ _ ledgerRoundTrip_said (fun _ h => by cases h) (by kernel_rfl) (fun _ h => by cases h) ledgerRoundTrip_row_tie rfl ⟨rfl, rfl⟩ (by kernel_rfl) rfl ledgerRoundTrip_plain (by kernel_rfl)
#print axioms ledgerRoundTrip_holds
end Go.Proofs.YtcohgkiloaapcaaDoor

/- LedgerRepair holds: for every sequence of entries, and every further argument, that can be read as data, in whatever memory in which errors.errorType holds what the program laid there (the card ties that to the program's text), the call returns true and leaves its arguments as they were. -/
import Derived.Test.YtcohgkiloaapcaaDoorS0
import Derived.Test.YtcohgkiloaapcaaDoorP3
import Derived.Test.YtcohgkiloaapcaaDoorCards
import Derived.Test.YtcohgkiloaapcaaDoorTie
import Derived.SevenTiedAt
namespace Go.Proofs.YtcohgkiloaapcaaDoor
open Go.ChangeShapes Go.WideShapes Go.RowKit Go.Deep

set_option maxRecDepth 100000 in
theorem ledgerRepair_lifted (os : Os) (started : os.Started) (H : Type) (enc : TypeId × Value → H) :
    ReturnsInHanded {} Tryd.checked os 8 .any (fun w args => (Rows.ledgerRepairSpec.pre enc Tryd.prog Tryd.f8 [] false w args ∧ laidMetH Tryd.prog laidL w) ∧ sizedMet enc Tryd.prog Tryd.f8 (OpenSpec.ofChange Rows.ledgerRepairSpec) false w args)
      (Rows.ledgerRepairSpec.post enc Tryd.prog Tryd.f8 false true false false) := by
  refine returnsInHanded_of_change_and (C := Tryd.checked) (X := fun w _ => laidMetH Tryd.prog laidL w) (fun _ _ _ hh h => h.of_heap hh) own started (by kernel_rfl) Tryd.func8
    (ChangeSpec.witness_at (enc := enc) (C := Tryd.checked) (os := os) (X := fun w _ => laidMetH Tryd.prog laidL w) false (laidWorld os) #[.slice none 0 0, .slice none 0 0, .slice none 0 0] 8 rfl (by kernel_rfl) (by kernel_rfl) (by kernel_rfl) (by kernel_rfl) (by kernel_rfl) (laidWorld_met os _)) ?_
  intro W base args ds gs before hval hW _ hwt hL _
  have hval : ∀ (j : Nat) t v, Tryd.f8.params[j]? = some t → args[j]? = some v → Value.okWide Tryd.prog W .any base t v := hval
  have hwt : (DataW.weightsEach Tryd.prog (Tryd.f8.params.toList ++ []) (ds ++ gs)).all (· ≤ reachBytes) = true := hwt
  have hW' := hW
  obtain ⟨p, q, hA, hV, rfl, _, _⟩ := hW
  have hA : DataW.TrodAll enc Tryd.prog W 0 (fun _ => true) true Tryd.f8.params.toList args.toList ds p := hA
  rw [Tryd.params8] at hA hval hwt
  obtain ⟨v0, vs0, d0, ds0, p0, q0, hvs0, rfl, rfl, h0, r0⟩ := trodAll_cons hA
  obtain ⟨v1, vs1, d1, ds1, p1, q1, hvs1, rfl, rfl, h1, r1⟩ := trodAll_cons r0
  obtain ⟨v2, vs2, d2, ds2, p2, q2, hvs2, rfl, rfl, h2, r2⟩ := trodAll_cons r1
  obtain ⟨rfl, rfl, rfl⟩ := trodAll_nil r2
  obtain rfl : args = #[v0, v1, v2] := by
    cases args
    simp_all
  obtain ⟨rfl, rfl⟩ : gs = [] ∧ q = [] := by
    cases gs with
    | nil => exact ⟨rfl, hV⟩
    | cons g r => exact absurd hV (by intro h; cases h)
  have hb : ∀ (j : Nat) (t : TypeId) (d : DataW H), [(23 : TypeId), (22 : TypeId), (23 : TypeId)][j]? = some t → [d0, d1, d2][j]? = some d → ∀ n ∈ d.weights Tryd.prog t, n ≤ reachBytes := fun j t d ht hd n hn => by
    have := List.all_eq_true.1 hwt n (DataW.weights_mem_each (t := t) (j := j) ht hd n hn)
    simpa using this
  obtain ⟨A0, n0, c0, rfl⟩ := okWide_slice Tryd.underlying23 (hval 0 23 v0 rfl rfl)
  obtain ⟨f0, h0⟩ := h0
  obtain ⟨A0', n0', c0', xs0, e0, hE0⟩ := open_entries h0 (hb 0 23 d0 rfl rfl)
  obtain ⟨rfl, rfl, rfl⟩ : A0 = A0' ∧ n0 = n0' ∧ c0 = c0' := by simpa [Value.cells] using e0
  obtain ⟨A1, n1, c1, rfl⟩ := okWide_slice Tryd.underlying22 (hval 1 22 v1 rfl rfl)
  obtain ⟨f1, h1⟩ := h1
  obtain ⟨A1', n1', c1', xs1, e1, hE1, hn1⟩ := open_bytes h1 (hb 1 22 d1 rfl rfl)
  obtain ⟨rfl, rfl, rfl⟩ : A1 = A1' ∧ n1 = n1' ∧ c1 = c1' := by simpa [Value.cells] using e1
  obtain ⟨A2, n2, c2, rfl⟩ := okWide_slice Tryd.underlying23 (hval 2 23 v2 rfl rfl)
  obtain ⟨f2, h2⟩ := h2
  obtain ⟨A2', n2', c2', xs2, e2, hE2⟩ := open_entries h2 (hb 2 23 d2 rfl rfl)
  obtain ⟨rfl, rfl, rfl⟩ : A2 = A2' ∧ n2 = n2' ∧ c2 = c2' := by simpa [Value.cells] using e2
  refine (law_Repair A0 n0 c0 xs0 A1 n1 c1 xs1 A2 n2 c2 xs2 W hE0 hE1 hn1 hE2 (gok_of_laid hL)).mono fun e W' ⟨he, hB⟩ => ?_
  subst he
  refine ⟨_, rfl, post_law hW' rfl rfl ?_ rfl hB⟩
  rw [Tryd.params8]
  intro t ht
  simp only [List.mem_cons, List.not_mem_nil, or_false] at ht
  have hr : ∀ t : TypeId, t ∈ [(22 : TypeId), 23, 25, 44, 5, 50] → Tryd.prog.readableRec t = true ∧ t < Tryd.prog.types.size := readables
  rcases ht with rfl | rfl | rfl <;> exact hr _ (by decide)

theorem ledgerRepair_said : Rows.LedgerRepairSaid :=
  OpenClaim.holds_of_wide 8 Tryd.f8 rfl rfl rfl rfl rfl rfl rfl ⟨rfl, rfl, rfl, rfl, rfl⟩ rfl rfl rfl rfl rfl (by kernel_rfl) Tryd.func8 (by kernel_rfl)
    (of_decide_eq_true (by kernel_rfl)) (by unfold Func.isWrapper; rw [if_neg (of_decide_eq_false (by kernel_rfl))]; exact ⟨rfl, rfl⟩)
    (fun os started H enc _ => ledgerRepair_lifted os started H enc)

/-- No parameter wants a stand-in; the program's own looks are on. -/
theorem ledgerRepair_plain (f : FuncId) (fn : Func) (hf : Tryd.pinned.checked.prog.funcNamed "armillary/armillarylaw28.LedgerRepair" = some f) (hfn : Tryd.pinned.checked.prog.funcs[f]? = some fn) :
    true = Tryd.pinned.checked.prog.looks [] ∧ ∀ (j : Nat) t, fn.params[j]? = some t → Tryd.pinned.checked.prog.wantsStandIn t = false := by
  obtain rfl : f = 8 := Option.some.inj ((show Tryd.prog.funcNamed "armillary/armillarylaw28.LedgerRepair" = some 8 by kernel_rfl).symm.trans hf) |>.symm
  obtain rfl : fn = Tryd.f8 := (Option.some.inj (Tryd.func8.symm.trans hfn)).symm
  refine ⟨by kernel_rfl, fun j t ht => ?_⟩
  rw [Tryd.params8] at ht
  have hm : t ∈ [(22 : TypeId), 23, 25, 44, 5, 50] := by
    have h1 : t ∈ [(23 : TypeId), (22 : TypeId), (23 : TypeId)] := by simpa using Array.mem_of_getElem? ht
    simp only [List.mem_cons, List.not_mem_nil, or_false] at h1 ⊢
    rcases h1 with rfl | rfl | rfl <;> decide
  exact noStands t hm

theorem ledgerRepair_holds : Rows.LedgerRepairCardSaid :=
  Claim7.holds_tied_plain_at .later [] _ _ _ _ ledgerRepair_said (fun _ h => by cases h) (by kernel_rfl) (fun _ h => by cases h) ledgerRepair_row_tie rfl ⟨rfl, rfl⟩ (by kernel_rfl) rfl ledgerRepair_plain (by kernel_rfl)
#print axioms ledgerRepair_holds
end Go.Proofs.YtcohgkiloaapcaaDoor

/- A law for a region that draws its order and in which rows of its own are appended to in place: what an operation yields is held only until those that use it have come up. No program stands in it. -/
import Derived.Test.YtcohgkiloaapcaaDoorR1
import Derived.Test.YtcohgkiloaapcaaDoorR2
import Derived.Test.YtcohgkiloaapcaaDoorR3
namespace Go.Proofs.YtcohgkiloaapcaaDoor
open Go.RowKit

/-- An operation's row: its temporary; whose values it may use; who uses its value; which come up before it; 0: what is known of its value needs no memory, 1: it needs memory, and the operation only adds, 2: the operation may write into what the region made. -/
structure OpR where
  d : Nat
  E : List (Nat × Nat)
  C : List Nat
  B : List Nat
  kd : Nat

/-- What is asked of each operation. -/
def RowOp (P : Program) (ops : Array Oper) (Q : Exit → Act → World → Prop) (a : Act) (W0 : World) (φ : Nat → Value → World → Prop) (i : Nat) (o : Oper) (D : List Nat) (r : OpR) : Prop :=
  ∀ (us : Nat → Value) (W : World), Below W0.heap.size W0 W → AllE φ us W r.E → ∀ K : Act → World → Prop,
    (∀ v W', Below W0.heap.size W0 W' → (r.kd ≠ 2 → Below W.heap.size W W') → (∀ W'', Below W'.heap.size W' W'' → φ i v W'') → K ((⟨fillT a.tmps D us, a.defers⟩ : Act).put o.dst v) W') →
    wpList P ops (monoQ Q K) [o] ⟨fillT a.tmps D us, a.defers⟩ W
def RowAll (P : Program) (ops : Array Oper) (Q : Exit → Act → World → Prop) (a : Act) (W0 : World) (φ : Nat → Value → World → Prop) : Nat → List Oper → List (List Nat) → List OpR → Prop
  | i, o :: os, D :: Ds, r :: rs => RowOp P ops Q a W0 φ i o D r ∧ RowAll P ops Q a W0 φ (i + 1) os Ds rs
  | _, _, _, _ => True
theorem RowAll.get {P : Program} {ops : Array Oper} {Q : Exit → Act → World → Prop} {a : Act} {W0 : World} {φ : Nat → Value → World → Prop} :
    ∀ (os : List Oper) (Ds : List (List Nat)) (rs : List OpR) (k : Nat), RowAll P ops Q a W0 φ k os Ds rs → ∀ (i : Nat) (o : Oper) (D : List Nat) (r : OpR), os[i]? = some o → Ds[i]? = some D → rs[i]? = some r → RowOp P ops Q a W0 φ (k + i) o D r
  | [], _, _, _, _, i, o, D, r, h, _, _ => by simp at h
  | _ :: _, [], _, _, _, i, o, D, r, _, h, _ => by simp at h
  | _ :: _, _ :: _, [], _, _, i, o, D, r, _, _, h => by simp at h
  | o0 :: os, D0 :: Ds, r0 :: rs, k, h, i, o, D, r, ho, hD, hr => by
    cases i with
    | zero =>
      simp only [List.getElem?_cons_zero, Option.some.injEq] at ho hD hr
      subst ho hD hr
      exact h.1
    | succ i =>
      have := RowAll.get os Ds rs (k + 1) h.2 i o D r (by simpa using ho) (by simpa using hD) (by simpa using hr)
      rwa [show k + 1 + i = k + (i + 1) by omega] at this

/-- What the closed facts say. -/
def rowsOk (ops : Array Oper) (rs : List OpR) : Bool :=
  rs.length == ops.size &&
  (List.range ops.size).all fun i => match ops[i]?, rs[i]? with
    | some o, some r =>
      o.dst == some r.d &&
      (r.B.all fun b => (o.after.any fun e => Region.binds .any e && e.on == b) || o.after.any fun e => Region.binds .any e && decide (e.on < i) && (match rs[e.on]? with | some r' => r'.B.contains b | none => false)) &&
      (r.E.all fun p => (o.after.any fun e => Region.binds .any e && e.on == p.1) && (match rs[p.1]? with | some r' => r'.d == p.2 && (r'.kd == 0 || r'.C.contains i) | none => false)) &&
      ((List.range ops.size).all fun j => j == i || (match rs[j]? with
        | some r' => r'.d != r.d && (r.kd != 2 || r'.kd == 0 || r'.B.contains i || r'.C.all fun c => c == i || r.B.contains c)
        | none => false))
    | _, _ => false

structure InvR (w : World) (ops : Array Oper) (rs : List OpR) (φ : Nat → Value → World → Prop) (dn : Nat → Bool) (us : Nat → Value) (W : World) : Prop where
  bel : Below w.heap.size w W
  out : dn ops.size = false
  down : ∀ (j : Nat) (o : Oper), dn j = true → ops[j]? = some o → ∀ e ∈ o.after, Region.binds .any e = true → dn e.on = true
  fact : ∀ (j : Nat) (r : OpR), dn j = true → rs[j]? = some r → (r.kd = 0 ∨ ∃ c ∈ r.C, dn c = false) → ∀ W', Below W.heap.size W W' → φ j (us r.d) W'

theorem wp_region_rows {P : Program} {ops : Array Oper} {Q : Exit → Act → World → Prop} {rid : Nat} {a : Act} {w : World} (hm : P.follows .mixedOrders = true)
    (Ds : List (List Nat)) (all : List Nat) (sz : Nat) (hsz : a.tmps.size = sz) (hL : invOk ops Ds all sz = true) (rs : List OpR) (hR : rowsOk ops rs = true) (φ : Nat → Value → World → Prop)
    (hpure : ∀ (j : Nat) (r : OpR), rs[j]? = some r → r.kd = 0 → ∀ v W W', φ j v W → φ j v W') (hops : RowAll P ops Q a w.drew φ 0 ops.toList Ds rs)
    (hfin : ∀ (us : Nat → Value) (W : World), Below w.drew.heap.size w.drew W → (∀ (j : Nat) (r : OpR), rs[j]? = some r → (r.kd = 0 ∨ r.C.contains ops.size = true) → φ j (us r.d) W) → Q .normal ⟨fillT a.tmps all us, a.defers⟩ W) :
    (Code.region rid ops true).wp P Q a w := by
  have hok : rs.length = ops.size ∧ ∀ i, i < ops.size → ∃ o r, ops[i]? = some o ∧ rs[i]? = some r ∧ o.dst = some r.d ∧
      (∀ b ∈ r.B, (∃ e ∈ o.after, Region.binds .any e = true ∧ e.on = b) ∨ ∃ e ∈ o.after, Region.binds .any e = true ∧ e.on < i ∧ ∃ r', rs[e.on]? = some r' ∧ b ∈ r'.B) ∧
      (∀ p ∈ r.E, (∃ e ∈ o.after, Region.binds .any e = true ∧ e.on = p.1) ∧ ∃ r', rs[p.1]? = some r' ∧ r'.d = p.2 ∧ (r'.kd = 0 ∨ i ∈ r'.C)) ∧
      (∀ j, j < ops.size → j ≠ i → ∃ r', rs[j]? = some r' ∧ r'.d ≠ r.d ∧ (r.kd ≠ 2 ∨ r'.kd = 0 ∨ i ∈ r'.B ∨ ∀ c ∈ r'.C, c = i ∨ c ∈ r.B)) := by
    unfold rowsOk at hR
    rw [Bool.and_eq_true] at hR
    refine ⟨by simpa using hR.1, fun i hi => ?_⟩
    have h := List.all_eq_true.1 hR.2 i (List.mem_range.2 hi)
    cases ho : ops[i]? with
    | none => simp [ho] at h
    | some o =>
      cases hr : rs[i]? with
      | none => simp [ho, hr] at h
      | some r =>
        simp only [ho, hr, Bool.and_eq_true] at h
        obtain ⟨⟨⟨h1, h2⟩, h3⟩, h4⟩ := h
        refine ⟨o, r, rfl, rfl, by simpa using h1, fun b hb => ?_, fun p hp => ?_, fun j hj hne => ?_⟩
        · have := List.all_eq_true.1 h2 b hb
          rw [Bool.or_eq_true] at this
          rcases this with h | h
          · obtain ⟨e, he, hb⟩ := Array.any_eq_true'.1 h
            simp only [Bool.and_eq_true, beq_iff_eq] at hb
            exact .inl ⟨e, he, hb.1, hb.2⟩
          · obtain ⟨e, he, hb⟩ := Array.any_eq_true'.1 h
            simp only [Bool.and_eq_true, decide_eq_true_eq] at hb
            cases hrr : rs[e.on]? with
            | none => simp [hrr] at hb
            | some r' =>
              rw [hrr] at hb
              exact .inr ⟨e, he, hb.1.1, hb.1.2, r', hrr, by simpa using hb.2⟩
        · have h := List.all_eq_true.1 h3 p hp
          rw [Bool.and_eq_true] at h
          obtain ⟨e, he, hb⟩ := Array.any_eq_true'.1 h.1
          simp only [Bool.and_eq_true, beq_iff_eq] at hb
          refine ⟨⟨e, he, hb.1, hb.2⟩, ?_⟩
          cases hrr : rs[p.1]? with
          | none => simp [hrr] at h
          | some r' =>
            have h2 := h.2
            rw [hrr] at h2
            simp only [Bool.and_eq_true, beq_iff_eq, Bool.or_eq_true] at h2
            exact ⟨r', rfl, h2.1, h2.2.imp id (fun h => by simpa using h)⟩
        · have h := List.all_eq_true.1 h4 j (List.mem_range.2 hj)
          cases hrr : rs[j]? with
          | none => simp [hrr, hne] at h
          | some r' =>
            simp only [hrr, Bool.or_eq_true, beq_iff_eq, hne, false_or, Bool.and_eq_true, bne_iff_ne, ne_eq] at h
            refine ⟨r', rfl, h.1, ?_⟩
            rcases h.2 with ((h | h) | h) | h
            · exact .inl h
            · exact .inr (.inl h)
            · exact .inr (.inr (.inl (by simpa using h)))
            · refine .inr (.inr (.inr fun c hc => ?_))
              have := List.all_eq_true.1 h c hc
              simp only [Bool.or_eq_true, beq_iff_eq] at this
              exact this.imp id (fun h => by simpa using h)
  obtain ⟨hlen, hall⟩ := hok
  have before : ∀ (dn : Nat → Bool), (∀ (j : Nat) (o : Oper), dn j = true → ops[j]? = some o → ∀ e ∈ o.after, Region.binds .any e = true → dn e.on = true) →
      ∀ (n i : Nat), i < n → i < ops.size → ∀ o r, ops[i]? = some o → rs[i]? = some r → (∀ e ∈ o.after, Region.binds .any e = true → dn e.on = true) → ∀ b ∈ r.B, dn b = true := by
    intro dn hdown n
    induction n with
    | zero => intro i hi; omega
    | succ n ih =>
      intro i hi hil o r ho hr haft b hb
      obtain ⟨o', r', ho', hr', _, hB, _⟩ := hall i hil
      rw [ho] at ho'
      rw [hr] at hr'
      cases ho'
      cases hr'
      rcases hB b hb with ⟨e, he, hbd, rfl⟩ | ⟨e, he, hbd, hlt, r', hr', hb'⟩
      · exact haft e he hbd
      · have hel : e.on < ops.size := by omega
        obtain ⟨oe, re, hoe, hre, _⟩ := hall e.on hel
        rw [hr'] at hre
        cases hre
        exact ih e.on (by omega) hel oe r' hoe hr' (fun e' he' hb'' => hdown e.on oe (haft e he hbd) hoe e' he' hb'') b hb'
  refine wp_region_any hm (any_inv Ds all sz hsz hL (InvR w.drew ops rs φ) ?_ ?_ ?_)
  · exact ⟨Below.refl _ _, rfl, fun j o h => (by cases h), fun j r h => (by cases h)⟩
  · refine InvAll.mk _ _ 0 fun i o D hoi hDi => ?_
    rw [Nat.zero_add]
    intro dn us W hi haft hv K hK
    have hoi' : ops[i]? = some o := by simpa using hoi
    have hil : i < ops.size := (Array.getElem?_eq_some_iff.1 hoi').1
    obtain ⟨o', r, ho', hr, hd, hB, hE, hoth⟩ := hall i hil
    rw [hoi'] at ho'
    cases ho'
    have hob := RowAll.get ops.toList Ds rs 0 hops i o D r (by simpa using hoi') hDi hr
    rw [Nat.zero_add] at hob
    have hBd := before dn hv.down (i + 1) i (by omega) hil o r hoi' hr haft
    refine hob us W hv.bel (AllE.mk r.E fun p hp => ?_) K fun v W' hb0 hb1 hφ => hK v W' ⟨hb0, by rw [if_neg (by omega)]; exact hv.out, fun j oj hj hoj e he hbd => ?_, fun j rj hj hrj hal W'' hW'' => ?_⟩
    · obtain ⟨⟨e, he, hbd, hon⟩, r', hr', hdp, hk⟩ := hE p hp
      have hdn : dn p.1 = true := by rw [← hon]; exact haft e he hbd
      have := hv.fact p.1 r' hdn hr' (hk.imp id (fun h => ⟨i, h, hi⟩)) W (Below.refl _ _)
      rwa [hdp] at this
    · by_cases hji : j = i
      · subst hji
        rw [hoi'] at hoj
        cases hoj
        have := haft e he hbd
        by_cases hei : e.on = j
        · rw [if_pos hei]
        · rw [if_neg hei]; exact this
      · rw [if_neg hji] at hj
        have := hv.down j oj hj hoj e he hbd
        by_cases hei : e.on = i
        · rw [if_pos hei]
        · rw [if_neg hei]; exact this
    · by_cases hji : j = i
      · subst hji
        rw [hr] at hrj
        cases hrj
        rw [if_pos hd]
        exact hφ W'' hW''
      · have hjl : j < ops.size := by rw [← hlen]; exact (List.getElem?_eq_some_iff.1 hrj).1
        obtain ⟨r', hr', hdne, hcase⟩ := hoth j hjl hji
        rw [hrj] at hr'
        cases hr'
        rw [if_neg hji] at hj
        rw [if_neg (by rw [hd]; simpa using fun e => hdne e.symm)]
        have hal' : rj.kd = 0 ∨ ∃ c ∈ rj.C, dn c = false := hal.imp id (fun ⟨c, hc, hcf⟩ => ⟨c, hc, by
          by_cases hci : c = i
          · rw [if_pos hci] at hcf; cases hcf
          · rwa [if_neg hci] at hcf⟩)
        have hf := hv.fact j rj hj hrj hal'
        rcases hal with h0 | ⟨c, hc, hcf⟩
        · exact hpure j rj hrj h0 _ _ _ (hf W (Below.refl _ _))
        · have hci : c ≠ i := by rintro rfl; rw [if_pos rfl] at hcf; cases hcf
          rw [if_neg hci] at hcf
          rcases hcase with h | h | h | h
          · exact hf W'' ((hb1 h).trans (hW''.mono (hb1 h).size))
          · exact hpure j rj hrj h _ _ _ (hf W (Below.refl _ _))
          · exfalso
            obtain ⟨oj, _, hoj, _⟩ := hall j hjl
            have := before dn hv.down (j + 1) j (by omega) hjl oj rj hoj hrj (fun e he hb => hv.down j oj hj hoj e he hb) i h
            rw [hi] at this
            cases this
          · exfalso
            rcases h c hc with h | h
            · exact hci h
            · have := hBd c h
              rw [hcf] at this
              cases this
  · intro dn us W hdn hv
    refine hfin us W hv.bel fun j r hr hk => ?_
    have hjl : j < ops.size := by rw [← hlen]; exact (List.getElem?_eq_some_iff.1 hr).1
    rcases hk with h | h
    · exact hv.fact j r (hdn j hjl) hr (.inl h) W (Below.refl _ _)
    · exact hv.fact j r (hdn j hjl) hr (.inr ⟨ops.size, by simpa using h, hv.out⟩) W (Below.refl _ _)
section
variable {P : Program} {o : Oper} {W : World} {ρ : Operand → Value}
theorem ex_min {x y : Operand} {ts : Array TypeId} {a b : Nat} (ho : o.op = .call { callee := .builtin .min, args := #[x, y], argTypes := ts }) (hx : ρ x = .int .i64 (a : Nat)) (hy : ρ y = .int .i64 (b : Nat)) : (execOp ρ o).run P W = .ok (.value (.int .i64 ((min a b : Nat) : Int))) W := by
  unfold execOp
  simp only [ho, resolve, invoke, builtin, Sem.run_bind, Sem.run_pure, Result.andThen_ok, List.map_toArray, List.map_cons, List.map_nil, hx, hy]
  have h : (if (b : Int) < (a : Int) then (b : Int) else (a : Int)) = ((min a b : Nat) : Int) := by split <;> omega
  simp only [Builtin.min_, List.foldlM_cons, List.foldlM_nil, Builtin.min2, h, Sem.run_bind, Sem.run_pure, Result.andThen_ok]
end
end Go.Proofs.YtcohgkiloaapcaaDoor

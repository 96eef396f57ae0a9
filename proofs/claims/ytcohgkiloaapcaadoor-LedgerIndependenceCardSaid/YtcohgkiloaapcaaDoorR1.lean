/- A law for a region that draws its order: an invariant that knows which operations have come up. It serves outside a round and, by 'region_inv_in', within one. No program stands in it. -/
import Derived.Test.YtcohgkiloaapcaaDoorR0
import Derived.OrdersIn
import Derived.RangeFuncCalls
namespace Go.Proofs.YtcohgkiloaapcaaDoor
open Go.RowKit

/-- The values of the temporaries. -/
def usOf (t : Array Value) : Nat → Value := fun k => (t[k]?).getD undef

/-- What is asked of operation i. -/
def InvOp (P : Program) (ops : Array Oper) (Q : Exit → Act → World → Prop) (a : Act) (Inv : (Nat → Bool) → (Nat → Value) → World → Prop) (i : Nat) (o : Oper) (D : List Nat) : Prop :=
  ∀ (dn : Nat → Bool) (us : Nat → Value) (W : World), dn i = false → (∀ e ∈ o.after, Region.binds .any e = true → dn e.on = true) → Inv dn us W → ∀ K : Act → World → Prop,
    (∀ v W', Inv (fun j => if j = i then true else dn j) (fun k => if o.dst = some k then v else us k) W' → K ((⟨fillT a.tmps D us, a.defers⟩ : Act).put o.dst v) W') →
    wpList P ops (monoQ Q K) [o] ⟨fillT a.tmps D us, a.defers⟩ W

def InvAll (P : Program) (ops : Array Oper) (Q : Exit → Act → World → Prop) (a : Act) (Inv : (Nat → Bool) → (Nat → Value) → World → Prop) : Nat → List Oper → List (List Nat) → Prop
  | i, o :: os, D :: L => InvOp P ops Q a Inv i o D ∧ InvAll P ops Q a Inv (i + 1) os L
  | _, _, _ => True

theorem InvAll.get {P : Program} {ops : Array Oper} {Q : Exit → Act → World → Prop} {a : Act} {Inv : (Nat → Bool) → (Nat → Value) → World → Prop} :
    ∀ (os : List Oper) (L : List (List Nat)) (k : Nat), InvAll P ops Q a Inv k os L → ∀ (i : Nat) (o : Oper) (D : List Nat), os[i]? = some o → L[i]? = some D → InvOp P ops Q a Inv (k + i) o D
  | [], _, _, _, i, o, D, ho, _ => by simp at ho
  | _ :: _, [], _, _, i, o, D, _, hL => by simp at hL
  | o0 :: os, D0 :: L, k, h, i, o, D, ho, hL => by
    cases i with
    | zero =>
      simp only [List.getElem?_cons_zero, Option.some.injEq] at ho hL
      subst ho hL
      exact h.1
    | succ i =>
      have := InvAll.get os L (k + 1) h.2 i o D (by simpa using ho) (by simpa using hL)
      rwa [show k + 1 + i = k + (i + 1) by omega] at this

/-- What the closed facts say of a region. -/
def invOk (ops : Array Oper) (L : List (List Nat)) (all : List Nat) (sz : Nat) : Bool :=
  L.length == ops.size &&
  (List.range ops.size).all fun i => match ops[i]?, L[i]? with
    | some o, some D =>
      (o.after.all fun e => !Region.binds .any e || decide (e.on < i)) &&
      (match o.dst with | some d => all.contains d && decide (d < sz) | none => true) &&
      ((List.range ops.size).all fun j => j == i || (match ops[j]? with
        | some oj => (match oj.dst with | some dj => D.contains dj | none => true) || oj.after.any fun e => Region.binds .any e && e.on == i
        | _ => false))
    | _, _ => false

theorem fillT_size (us : Nat → Value) : ∀ (ds : List Nat) (t : Array Value), (fillT t ds us).size = t.size
  | [], t => rfl
  | x :: ds, t => by rw [fillT, fillT_size us ds, Array.size_setIfInBounds]

theorem fill_self {t t' : Array Value} (hs : t'.size = t.size) (D : List Nat) (h : ∀ k, k ∉ D → t'[k]? = t[k]?) : t' = fillT t D (usOf t') := by
  refine arr_ext fun k => ?_
  rw [fillT_get]
  by_cases hc : k ∈ D ∧ k < t.size
  · rw [if_pos hc]
    have : k < t'.size := by omega
    simp [usOf, this]
  · rw [if_neg hc]
    by_cases hk : k ∈ D
    · have : ¬ k < t.size := fun h => hc ⟨hk, h⟩
      rw [Array.getElem?_eq_none (by omega), Array.getElem?_eq_none (by omega)]
    · exact h k hk

theorem any_inv {P : Program} {ops : Array Oper} {Q : Exit → Act → World → Prop} {a : Act} {w : World}
    (L : List (List Nat)) (all : List Nat) (sz : Nat) (hsz : a.tmps.size = sz) (hL : invOk ops L all sz = true) (Inv : (Nat → Bool) → (Nat → Value) → World → Prop)
    (h0 : Inv (fun _ => false) (usOf a.tmps) w) (hops : InvAll P ops Q a Inv 0 ops.toList L)
    (hfin : ∀ (dn : Nat → Bool) (us : Nat → Value) (W : World), (∀ j, j < ops.size → dn j = true) → Inv dn us W → Q .normal ⟨fillT a.tmps all us, a.defers⟩ W) :
    wpAny P .any ops Q ops.size (Array.replicate ops.size false) a w := by
  have hok : L.length = ops.size ∧ ∀ i, i < ops.size → ∃ o D, ops[i]? = some o ∧ L[i]? = some D ∧ (∀ e ∈ o.after, Region.binds .any e = true → e.on < i) ∧ (∀ d, o.dst = some d → d ∈ all ∧ d < sz) ∧
      (∀ j, j < ops.size → j ≠ i → ∃ oj, ops[j]? = some oj ∧ ((∀ dj, oj.dst = some dj → dj ∈ D) ∨ ∃ e ∈ oj.after, Region.binds .any e = true ∧ e.on = i)) := by
    unfold invOk at hL
    rw [Bool.and_eq_true] at hL
    refine ⟨by simpa using hL.1, fun i hi => ?_⟩
    have h := List.all_eq_true.1 hL.2 i (List.mem_range.2 hi)
    cases ho : ops[i]? with
    | none => simp [ho] at h
    | some o =>
      cases hl : L[i]? with
      | none => simp [ho, hl] at h
      | some D =>
        simp only [ho, hl, Bool.and_eq_true] at h
        obtain ⟨⟨h1, h2⟩, h3⟩ := h
        refine ⟨o, D, rfl, rfl, fun e he hb => ?_, fun d hd => ?_, fun j hj hne => ?_⟩
        · have := Array.all_eq_true_iff_forall_mem.1 h1 e he
          simp only [hb, Bool.not_true, Bool.false_or, decide_eq_true_eq] at this
          exact this
        · rw [hd] at h2
          simp only [Bool.and_eq_true, decide_eq_true_eq] at h2
          exact ⟨by simpa using h2.1, h2.2⟩
        · have h := List.all_eq_true.1 h3 j (List.mem_range.2 hj)
          cases hoj : ops[j]? with
          | none => simp [hoj, hne] at h
          | some oj =>
            simp only [hoj, Bool.or_eq_true, beq_iff_eq, hne, false_or] at h
            refine ⟨oj, rfl, ?_⟩
            rcases h with h | h
            · refine .inl fun dj hdj => ?_
              rw [hdj] at h
              simpa using h
            · obtain ⟨e, he, hb⟩ := Array.any_eq_true'.1 h
              simp only [Bool.and_eq_true, beq_iff_eq] at hb
              exact .inr ⟨e, he, hb.1, hb.2⟩
  obtain ⟨hlen, hall⟩ := hok
  have key : ∀ (fuel : Nat) (lst : Array Bool) (b : Act) (W : World), lst.size = ops.size →
      ((List.range ops.size).filter fun i => !lst.getD i false).length = fuel →
      (∀ j, j < ops.size → lst.getD j false = true → ∀ o, ops[j]? = some o → ∀ e ∈ o.after, Region.binds .any e = true → lst.getD e.on false = true) →
      b.defers = a.defers → b.tmps.size = a.tmps.size →
      (∀ k, (∀ j : Nat, lst.getD j false = true → ∀ o, ops[j]? = some o → o.dst ≠ some k) → b.tmps[k]? = a.tmps[k]?) →
      Inv (fun j => lst.getD j false) (usOf b.tmps) W → wpAny P .any ops Q fuel lst b W := by
    intro fuel
    induction fuel with
    | zero =>
      intro lst b W hls hcount hclosed hdef hbs hun hI
      have hallL : ∀ j, j < ops.size → lst.getD j false = true := by
        intro j hj
        have hnil := List.eq_nil_of_length_eq_zero hcount
        by_cases h : lst.getD j false = true
        · exact h
        · exfalso
          have : j ∈ (List.range ops.size).filter fun i => !lst.getD i false := List.mem_filter.2 ⟨List.mem_range.2 hj, by simpa using h⟩
          rw [hnil] at this
          cases this
      have hrd : Region.ready .any ops lst = [] := by
        cases hr : Region.ready .any ops lst with
        | nil => rfl
        | cons x xs =>
          exfalso
          have hx : x ∈ Region.ready .any ops lst := by rw [hr]; exact List.mem_cons_self
          obtain ⟨h0, o, ho, _⟩ := mem_ready.1 hx
          have hxl : x < ops.size := (Array.getElem?_eq_some_iff.1 ho).1
          have := hallL x hxl
          have hxs : x < lst.size := by omega
          simp [hxs] at h0 this
          rw [h0] at this
          cases this
      refine ⟨hrd, ?_⟩
      have hfill : b = ⟨fillT a.tmps all (usOf b.tmps), a.defers⟩ := by
        have h1 := fill_self hbs all (fun k hk => hun k fun j hj o ho hd => by
          have hjl : j < ops.size := (Array.getElem?_eq_some_iff.1 ho).1
          obtain ⟨o', D, ho', _, _, hd', _⟩ := hall j hjl
          rw [ho] at ho'
          cases ho'
          exact hk (hd' k hd).1)
        rw [← h1, ← hdef]
      rw [hfill]
      exact hfin _ _ W hallL hI
    | succ fuel ih =>
      intro lst b W hls hcount hclosed hdef hbs hun hI
      refine ⟨fun hr => ?_, fun i hi => ?_⟩
      · exfalso
        have hne : ((List.range ops.size).filter fun i => !lst.getD i false) ≠ [] := by intro h; rw [h] at hcount; simp at hcount
        obtain ⟨x, xs, hxs⟩ := List.exists_cons_of_ne_nil hne
        have hx : ∃ i, i < ops.size ∧ lst.getD i false = false := by
          have : x ∈ (List.range ops.size).filter fun i => !lst.getD i false := by rw [hxs]; exact List.mem_cons_self
          obtain ⟨h1, h2⟩ := List.mem_filter.1 this
          exact ⟨x, List.mem_range.1 h1, by simpa using h2⟩
        have hmin : ∀ n, n < ops.size → lst.getD n false = false → ∃ i, i < ops.size ∧ lst.getD i false = false ∧ ∀ j, j < i → lst.getD j false = true := by
          intro n
          induction n using Nat.strongRecOn with
          | _ n ihn =>
            intro hn hnf
            by_cases hex : ∃ j, j < n ∧ lst.getD j false = false
            · obtain ⟨j, hj, hjf⟩ := hex
              exact ihn j hj (by omega) hjf
            · exact ⟨n, hn, hnf, fun j hj => by
                cases hb : lst.getD j false
                · exact absurd ⟨j, hj, hb⟩ hex
                · rfl⟩
        obtain ⟨x0, hx0, hx0f⟩ := hx
        obtain ⟨i, hi, hif, hless⟩ := hmin x0 hx0 hx0f
        obtain ⟨o, D, ho, _, hup, _⟩ := hall i hi
        have : i ∈ Region.ready .any ops lst := by
          refine mem_ready.2 ⟨?_, o, ho, fun e he hb => hless _ (hup e he hb)⟩
          have his : i < lst.size := by omega
          simp [his] at hif ⊢
          exact hif
        rw [hr] at this
        cases this
      · obtain ⟨h0, o', ho', hafter⟩ := mem_ready.1 hi
        have hil : i < ops.size := (Array.getElem?_eq_some_iff.1 ho').1
        have his : i < lst.size := by omega
        have hif : lst.getD i false = false := by simp [his] at h0 ⊢; exact h0
        obtain ⟨o, D, ho, hLi, hup, hdst, hoth⟩ := hall i hil
        have ho2 : o = o' := by rw [ho] at ho'; exact Option.some.inj ho'
        subst ho2
        have hfill : b = ⟨fillT a.tmps D (usOf b.tmps), a.defers⟩ := by
          have h1 := fill_self hbs D (fun k hk => hun k fun j hj oj hoj hd => by
            have hjl : j < ops.size := (Array.getElem?_eq_some_iff.1 hoj).1
            have hji : j ≠ i := by rintro rfl; rw [hif] at hj; cases hj
            obtain ⟨oj', hoj', hc⟩ := hoth j hjl hji
            rw [hoj] at hoj'
            cases hoj'
            rcases hc with h | ⟨e, he, hb, hei⟩
            · exact hk (h k hd)
            · have := hclosed j hjl hj oj hoj e he hb
              rw [hei, hif] at this
              cases this)
          rw [← h1, ← hdef]
        have hob := InvAll.get ops.toList L 0 hops i o D (by simpa using ho) hLi
        rw [Nat.zero_add] at hob
        have hstep := hob (fun j => lst.getD j false) (usOf b.tmps) W hif hafter hI (wpAny P .any ops Q fuel (lst.setIfInBounds i true)) ?_
        · rw [← hfill] at hstep
          unfold wpOp
          rw [ho]
          dsimp only
          simp only [wpList] at hstep
          by_cases hw : Region.wanted o (yielded ops b.tmps) = true
          · rw [if_pos hw] at hstep ⊢
            rcases hstep with h | ⟨h, h'⟩
            · refine .inl ?_
              unfold Oper.wp at h ⊢
              generalize (execOp b.eval o).run P W = r at h ⊢
              cases r with
              | ok n w' => cases n <;> exact h
              | halt x w' => cases x <;> exact h
            · exact .inr ⟨h, h'⟩
          · rw [if_neg hw] at hstep ⊢
            exact hstep
        · intro v W' hI'
          rw [← hfill]
          have hset : ∀ j, (lst.setIfInBounds i true).getD j false = if j = i then true else lst.getD j false := by
            intro j
            by_cases hji : j = i
            · subst hji; simp [his]
            · rw [if_neg hji, getD_set_ne false (Ne.symm hji)]
          refine ih (lst.setIfInBounds i true) (b.put o.dst v) W' (by rw [Array.size_setIfInBounds]; exact hls) ?_ ?_ ?_ ?_ ?_ ?_
          · have hcnt : ∀ (l : List Nat), l.Nodup → i ∈ l → (l.filter fun j => !(lst.setIfInBounds i true).getD j false).length + 1 = (l.filter fun j => !lst.getD j false).length := by
              intro l
              induction l with
              | nil => intro _ h; cases h
              | cons x l ihl =>
                intro hnd hmem
                have hnd' := List.nodup_cons.1 hnd
                by_cases hxi : x = i
                · subst hxi
                  have hrest : l.filter (fun j => !(lst.setIfInBounds x true).getD j false) = l.filter (fun j => !lst.getD j false) := by
                    refine List.filter_congr fun j hj => ?_
                    rw [hset j, if_neg (fun (e : j = x) => hnd'.1 (by rw [← e]; exact hj))]
                  rw [List.filter_cons, List.filter_cons, hset x, if_pos rfl, hif, hrest]
                  simp
                · have hm : i ∈ l := (List.mem_cons.1 hmem).resolve_left (fun e => hxi e.symm)
                  have := ihl hnd'.2 hm
                  rw [List.filter_cons, List.filter_cons, hset x, if_neg hxi]
                  by_cases hxl : lst.getD x false = true
                  · simp only [hxl, Bool.not_true, Bool.false_eq_true, if_false]; exact this
                  · have hxl' : lst.getD x false = false := by simpa using hxl
                    simp only [hxl', Bool.not_false, if_true, List.length_cons]; omega
            have := hcnt (List.range ops.size) List.nodup_range (List.mem_range.2 hil)
            omega
          · intro j hj hjl oj hoj e he hb
            rw [hset] at hjl ⊢
            by_cases hei : e.on = i
            · rw [if_pos hei]
            · rw [if_neg hei]
              by_cases hji : j = i
              · subst hji
                rw [ho] at hoj
                obtain rfl := Option.some.inj hoj
                exact hafter e he hb
              · rw [if_neg hji] at hjl
                exact hclosed j hj hjl oj hoj e he hb
          · cases hd : o.dst <;> exact hdef
          · cases hd : o.dst with
            | none => exact hbs
            | some d => show (b.tmps.setIfInBounds d v).size = _; rw [Array.size_setIfInBounds]; exact hbs
          · intro k hk
            have hk0 : ∀ j : Nat, lst.getD j false = true → ∀ o, ops[j]? = some o → o.dst ≠ some k := fun j hj o1 ho1 => hk j (by rw [hset]; by_cases hji : j = i; rw [if_pos hji]; rw [if_neg hji]; exact hj) o1 ho1
            have hki := hk i (by rw [hset, if_pos rfl]) o ho
            cases hd : o.dst with
            | none => exact hun k hk0
            | some d =>
              show (b.tmps.setIfInBounds d v)[k]? = _
              rw [Array.getElem?_setIfInBounds_ne (fun e => hki (by rw [hd, e]))]
              exact hun k hk0
          · have e1 : (fun j => (lst.setIfInBounds i true).getD j false) = (fun j => if j = i then true else lst.getD j false) := funext hset
            have e2 : usOf (b.put o.dst v).tmps = (fun k => if o.dst = some k then v else usOf b.tmps k) := by
              funext k
              cases hd : o.dst with
              | none => simp [Act.put]
              | some d =>
                show ((b.tmps.setIfInBounds d v)[k]?).getD undef = _
                have hlt : d < b.tmps.size := by rw [hbs, hsz]; exact (hdst d hd).2
                by_cases hdk : d = k
                · subst hdk
                  simp [hlt]
                · rw [Array.getElem?_setIfInBounds_ne hdk, if_neg (fun e => hdk (by simpa using e))]
                  rfl
            rw [e1, e2]
            exact hI'
  have hrep : ∀ j, (Array.replicate ops.size false).getD j false = false := by
    intro j
    unfold Array.getD
    split <;> simp
  refine key ops.size _ a w (by simp) ?_ ?_ rfl rfl (fun _ _ => rfl) ?_
  · rw [List.filter_eq_self.2 (fun j hj => by rw [hrep]; rfl)]
    simp
  · intro j hj h
    rw [hrep] at h
    cases h
  · have e : (fun j => (Array.replicate ops.size false).getD j false) = (fun _ => false) := funext hrep
    rw [e]
    exact h0

/-- Outside a round. -/
theorem region_inv {P : Program} {ops : Array Oper} {Q : Exit → Act → World → Prop} {id : Nat} {a : Act} {w : World} (hm : P.follows .mixedOrders = true)
    (h : wpAny P .any ops Q ops.size (Array.replicate ops.size false) a w.drew) : (Code.region id ops true).wp P Q a w := wp_region_any hm h

theorem opIn_of_op {P : Program} {o : Oper} (hnd : ∀ c, o.op ≠ .defer c) {r n : Nat} {a : Act} {w : World} {K : Act → World → Prop} {Q : Exit → Act → World → Prop} (h : o.wp P a w K Q) : o.wpIn (Fence.wide.inRound r) n P a w K Q := by
  refine ⟨fun f _ => trivial, ?_⟩
  rw [Oper.semAt_eq _ _ _ hnd]
  unfold Oper.wp at h
  generalize (execOp a.eval o).run P w = res at h ⊢
  cases res with
  | ok nx w' =>
    cases nx with
    | enter f args =>
      refine ⟨fun hd => (by cases hd), CallsIn.inRound r (callsIn_wide.2 (Calls.mono h ?_))⟩
      intro e w2 h2
      cases e with
      | returned v => exact h2
      | panicked c => exact h2
      | outgrown => exact h2
    | row row args => exact ⟨fun hd => (by cases hd), fun c cs _ => let ⟨v, w2, hR, hs⟩ := h c cs; ⟨v, w2, hR, stepsIn_wide.2 hs⟩⟩
    | round => exact h.elim
    | _ => exact h
  | halt x w' => cases x <;> exact h

theorem opsIn_of_ops {P : Program} {ops : Array Oper} (hnd : ∀ o, o ∈ ops → ∀ c, o.op ≠ .defer c) {r n : Nat} {Q : Exit → Act → World → Prop} (hno : ¬ LetsOut Q) : ∀ (l : List Nat) (a : Act) (w : World), wpOps P ops Q l a w → wpOpsIn (Fence.wide.inRound r) n P ops Q l a w
  | [], a, w, h => h
  | i :: rest, a, w, h => by
    unfold wpOps at h
    unfold wpOpsIn
    cases ho : ops[i]? with
    | none => rw [ho] at h; exact opsIn_of_ops hnd hno rest a w h
    | some o =>
      rw [ho] at h
      dsimp only at h ⊢
      by_cases hw : Region.wanted o (yielded ops a.tmps) = true
      · rw [if_pos hw] at h ⊢
        rcases h with h | h
        · refine opIn_of_op (hnd o (Array.mem_of_getElem? ho)) (Oper.wp_mono (fun a w => opsIn_of_ops hnd hno rest a w) h)
        · exact absurd h.2 hno
      · rw [if_neg hw] at h ⊢
        exact ⟨fun _ _ => trivial, opsIn_of_ops hnd hno rest _ w h⟩

/-- Within a round. -/
theorem region_inv_in {P : Program} {ops : Array Oper} {Q : Exit → Act → World → Prop} {id r n : Nat} {a : Act} {w : World} (hm : P.follows .mixedOrders = true) (hnd : (ops.all fun o => match o.op with | .defer _ => false | _ => true) = true) (hno : ¬ LetsOut Q)
    (h : wpAny P .any ops Q ops.size (Array.replicate ops.size false) a w.drew) : (Code.region id ops true).wpIn (Fence.wide.inRound r) n P Q a w :=
  wpIn_region_draw fun t => by
    refine opsIn_of_ops (fun o ho c hc => ?_) hno _ _ _ ?_
    · have := Array.all_eq_true_iff_forall_mem.1 hnd o ho
      rw [hc] at this
      cases this
    · simp only [Region.schedule, hm, Bool.true_or, if_true]
      exact wpAny_sound ops.size t _ a _ h
end Go.Proofs.YtcohgkiloaapcaaDoor

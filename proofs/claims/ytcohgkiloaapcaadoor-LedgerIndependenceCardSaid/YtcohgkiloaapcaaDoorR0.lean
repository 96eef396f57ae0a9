/- A law for a region that draws its order: where every operation only adds to memory, each is shown once, whatever came before it. No program stands in it. -/
import Derived.Orders
import Derived.Below
import Derived.Tactics
namespace Go.Proofs.YtcohgkiloaapcaaDoor
open Go.RowKit

theorem undrew {w W : World} (h : Below w.drew.heap.size w.drew W) : Below w.heap.size w W := ⟨h.os, h.tape, h.output, h.size, h.block⟩

/-- The temporaries, some of them filled. -/
def fillT (t : Array Value) : List Nat → (Nat → Value) → Array Value
  | [], _ => t
  | d :: ds, us => fillT (t.setIfInBounds d (us d)) ds us

theorem fillT_get (ds : List Nat) (us : Nat → Value) : ∀ (t : Array Value) (k : Nat), (fillT t ds us)[k]? = if k ∈ ds ∧ k < t.size then some (us k) else t[k]? := by
  induction ds with
  | nil => intro t k; simp [fillT]
  | cons d ds ih =>
    intro t k
    rw [fillT, ih, Array.size_setIfInBounds]
    by_cases hk : k ∈ ds ∧ k < t.size
    · rw [if_pos hk, if_pos ⟨List.mem_cons_of_mem _ hk.1, hk.2⟩]
    · rw [if_neg hk]
      by_cases hd : d = k
      · subst hd
        by_cases hs : d < t.size
        · rw [if_pos ⟨List.mem_cons_self, hs⟩]
          simp [hs]
        · rw [if_neg (fun h => hs h.2)]
          simp [hs]
      · rw [if_neg (fun h => hk ⟨(List.mem_cons.1 h.1).resolve_left (fun e => hd e.symm), h.2⟩)]
        simp [Array.getElem?_setIfInBounds_ne hd]

theorem arr_ext {a b : Array Value} (h : ∀ k : Nat, a[k]? = b[k]?) : a = b := Array.ext_getElem? h

/-- The post of one operation. -/
def monoQ (Q : Exit → Act → World → Prop) (K : Act → World → Prop) : Exit → Act → World → Prop
  | .normal, a, w => K a w
  | e, a, w => Q e a w

theorem monoQ_out {Q : Exit → Act → World → Prop} {K : Act → World → Prop} (h : LetsOut (monoQ Q K)) : LetsOut Q := h

/-- The values that an operation may use. -/
def AllE (φ : Nat → Value → World → Prop) (us : Nat → Value) (W : World) : List (Nat × Nat) → Prop
  | [] => True
  | p :: ps => φ p.1 (us p.2) W ∧ AllE φ us W ps
theorem AllE.mk {φ : Nat → Value → World → Prop} {us : Nat → Value} {W : World} : ∀ (E : List (Nat × Nat)), (∀ p, p ∈ E → φ p.1 (us p.2) W) → AllE φ us W E
  | [], _ => trivial
  | p :: ps, h => ⟨h p List.mem_cons_self, AllE.mk ps fun q hq => h q (List.mem_cons_of_mem _ hq)⟩

/-- What is asked of each operation. i: its number; o: itself; D: the temporaries that may be filled; E: whose values it may use (number, temporary). -/
def MonoOp (P : Program) (ops : Array Oper) (Q : Exit → Act → World → Prop) (a : Act) (W0 : World) (φ : Nat → Value → World → Prop) (i : Nat) (o : Oper) (D : List Nat) (E : List (Nat × Nat)) : Prop :=
  ∀ (us : Nat → Value) (W : World), Below W0.heap.size W0 W → AllE φ us W E → ∀ K : Act → World → Prop,
    (∀ v W', Below W.heap.size W W' → (∀ W'', Below W'.heap.size W' W'' → φ i v W'') → K ((⟨fillT a.tmps D us, a.defers⟩ : Act).put o.dst v) W') →
    wpList P ops (monoQ Q K) [o] ⟨fillT a.tmps D us, a.defers⟩ W

/-- What the closed facts say of a region: sizes, temporaries. -/
def monoOk (ops : Array Oper) (L : List (Nat × List Nat × List (Nat × Nat))) : Bool :=
  L.length == ops.size &&
  (List.range ops.size).all fun i => match ops[i]?, L[i]? with
    | some o, some (d, D, E) =>
      o.dst == some d && !D.contains d && (o.after.all fun e => !Region.binds .any e || decide (e.on < i)) &&
      ((List.range ops.size).all fun j => j == i || (match ops[j]?, L[j]? with
        | some oj, some (dj, _, _) => dj != d && (D.contains dj || oj.after.any fun e => Region.binds .any e && e.on == i)
        | _, _ => false)) &&
      (E.all fun p => (o.after.any fun e => Region.binds .any e && e.on == p.1) && (match L[p.1]? with | some (dj, _, _) => dj == p.2 | none => false))
    | _, _ => false

def MonoAll (P : Program) (ops : Array Oper) (Q : Exit → Act → World → Prop) (a : Act) (W0 : World) (φ : Nat → Value → World → Prop) : Nat → List Oper → List (Nat × List Nat × List (Nat × Nat)) → Prop
  | i, o :: os, (_, D, E) :: L => MonoOp P ops Q a W0 φ i o D E ∧ MonoAll P ops Q a W0 φ (i + 1) os L
  | _, _, _ => True

theorem MonoAll.get {P : Program} {ops : Array Oper} {Q : Exit → Act → World → Prop} {a : Act} {W0 : World} {φ : Nat → Value → World → Prop} :
    ∀ (os : List Oper) (L : List (Nat × List Nat × List (Nat × Nat))) (k : Nat), MonoAll P ops Q a W0 φ k os L → ∀ (i : Nat) (o : Oper) (d : Nat) (D : List Nat) (E : List (Nat × Nat)), os[i]? = some o → L[i]? = some (d, D, E) → MonoOp P ops Q a W0 φ (k + i) o D E
  | [], _, _, _, i, o, d, D, E, ho, _ => by simp at ho
  | _ :: _, [], _, _, i, o, d, D, E, _, hL => by simp at hL
  | o0 :: os, (d0, D0, E0) :: L, k, h, i, o, d, D, E, ho, hL => by
    cases i with
    | zero =>
      simp only [List.getElem?_cons_zero, Option.some.injEq, Prod.mk.injEq] at ho hL
      obtain ⟨rfl, rfl, rfl⟩ := hL
      subst ho
      exact h.1
    | succ i =>
      have := MonoAll.get os L (k + 1) h.2 i o d D E (by simpa using ho) (by simpa using hL)
      rwa [show k + 1 + i = k + (i + 1) by omega] at this

/-- What holds of all values behind the region. -/
def AllF (φ : Nat → Value → World → Prop) (us : Nat → Value) (W : World) : Nat → List (Nat × List Nat × List (Nat × Nat)) → Prop
  | _, [] => True
  | k, x :: xs => φ k (us x.1) W ∧ AllF φ us W (k + 1) xs
theorem AllF.mk {φ : Nat → Value → World → Prop} {us : Nat → Value} {W : World} : ∀ (L : List (Nat × List Nat × List (Nat × Nat))) (k : Nat), (∀ p, p ∈ L.zipIdx k → φ p.2 (us p.1.1) W) → AllF φ us W k L
  | [], _, _ => trivial
  | x :: xs, k, h => ⟨h (x, k) (by simp), AllF.mk xs (k + 1) fun q hq => h q (by rw [List.zipIdx_cons]; exact List.mem_cons_of_mem _ hq)⟩

/-- Which operations have come up. -/
def listedB (l : Array Bool) (i : Nat) : Prop := l.getD i false = true

open Classical in
theorem wp_region_mono {P : Program} {ops : Array Oper} {Q : Exit → Act → World → Prop} {id : Nat} {a : Act} {w : World} (hm : P.follows .mixedOrders = true)
    (L : List (Nat × List Nat × List (Nat × Nat))) (hL : monoOk ops L = true) (φ : Nat → Value → World → Prop)
    (hT : ∀ x, x ∈ L → x.1 < a.tmps.size) (hops : MonoAll P ops Q a w.drew φ 0 ops.toList L)
    (hfin : ∀ (us : Nat → Value) (W : World), Below w.drew.heap.size w.drew W → AllF φ us W 0 L → Q .normal ⟨fillT a.tmps (L.map (·.1)) us, a.defers⟩ W) :
    (Code.region id ops true).wp P Q a w := by
  have hok : L.length = ops.size ∧ ∀ i, i < ops.size → ∃ o d D E, ops[i]? = some o ∧ L[i]? = some (d, D, E) ∧ o.dst = some d ∧ d ∉ D ∧ (∀ e ∈ o.after, Region.binds .any e = true → e.on < i) ∧
      (∀ j, j < ops.size → j ≠ i → ∃ oj dj Dj Ej, ops[j]? = some oj ∧ L[j]? = some (dj, Dj, Ej) ∧ dj ≠ d ∧ (dj ∈ D ∨ ∃ e ∈ oj.after, Region.binds .any e = true ∧ e.on = i)) ∧
      (∀ p ∈ E, (∃ e ∈ o.after, Region.binds .any e = true ∧ e.on = p.1) ∧ ∃ Dj Ej, L[p.1]? = some (p.2, Dj, Ej)) := by
    unfold monoOk at hL
    rw [Bool.and_eq_true] at hL
    refine ⟨by simpa using hL.1, fun i hi => ?_⟩
    have h := List.all_eq_true.1 hL.2 i (List.mem_range.2 hi)
    cases ho : ops[i]? with
    | none => simp [ho] at h
    | some o =>
      cases hl : L[i]? with
      | none => simp [ho, hl] at h
      | some x =>
        obtain ⟨d, D, E⟩ := x
        simp only [ho, hl, Bool.and_eq_true] at h
        obtain ⟨⟨⟨⟨h1, h2⟩, h5⟩, h3⟩, h4⟩ := h
        refine ⟨o, d, D, E, rfl, rfl, by simpa using h1, by simpa using h2, fun e he hb => ?_, fun j hj hne => ?_, fun p hp => ?_⟩
        · have := Array.all_eq_true_iff_forall_mem.1 h5 e he
          simp only [hb, Bool.not_true, Bool.false_or, decide_eq_true_eq] at this
          exact this
        · have h := List.all_eq_true.1 h3 j (List.mem_range.2 hj)
          cases hoj : ops[j]? with
          | none => simp [hoj, hne] at h
          | some oj =>
            cases hlj : L[j]? with
            | none => simp [hoj, hlj, hne] at h
            | some y =>
              obtain ⟨dj, Dj, Ej⟩ := y
              simp only [hoj, hlj, Bool.or_eq_true, beq_iff_eq, hne, false_or, Bool.and_eq_true, bne_iff_ne, ne_eq] at h
              refine ⟨oj, dj, Dj, Ej, rfl, rfl, h.1, ?_⟩
              rcases h.2 with h | h
              · exact .inl (by simpa using h)
              · obtain ⟨e, he, hb⟩ := Array.any_eq_true'.1 h
                simp only [Bool.and_eq_true, beq_iff_eq] at hb
                exact .inr ⟨e, he, hb.1, hb.2⟩
        · have h := List.all_eq_true.1 h4 p hp
          rw [Bool.and_eq_true] at h
          refine ⟨?_, ?_⟩
          · obtain ⟨e, he, hb⟩ := Array.any_eq_true'.1 h.1
            simp only [Bool.and_eq_true, beq_iff_eq] at hb
            exact ⟨e, he, hb.1, hb.2⟩
          · cases hlj : L[p.1]? with
            | none => simp [hlj] at h
            | some y =>
              obtain ⟨dj, Dj, Ej⟩ := y
              simp only [hlj, beq_iff_eq] at h
              exact ⟨Dj, Ej, by rw [h.2]⟩
  obtain ⟨hlen, hall⟩ := hok
  -- the invariant
  have key : ∀ (fuel : Nat) (lst : Array Bool) (b : Act) (W : World), lst.size = ops.size →
      ((List.range ops.size).filter fun i => !lst.getD i false).length = fuel →
      (∀ j, j < ops.size → lst.getD j false = true → ∀ o, ops[j]? = some o → ∀ e ∈ o.after, Region.binds .any e = true → lst.getD e.on false = true) →
      b.defers = a.defers →
      (∃ us : Nat → Value, (∀ k, b.tmps[k]? = if (∃ j : Nat, lst.getD j false = true ∧ (L[j]?).map (·.1) = some k) ∧ k < a.tmps.size then some (us k) else a.tmps[k]?) ∧
        (∀ j, lst.getD j false = true → ∀ d D E, L[j]? = some (d, D, E) → φ j (us d) W ∧ ∀ W', Below W.heap.size W W' → φ j (us d) W')) →
      Below w.drew.heap.size w.drew W → wpAny P .any ops Q fuel lst b W := by
    classical
    intro fuel
    induction fuel with
    | zero =>
      intro lst b W hsz hcount hclosed hdef ⟨us, hus, hφ⟩ hB
      have hallL : ∀ j, j < ops.size → lst.getD j false = true := by
        intro j hj
        have hnil := List.eq_nil_of_length_eq_zero hcount
        by_cases h : lst.getD j false = true
        · exact h
        · exfalso
          have : j ∈ (List.range ops.size).filter fun i => !lst.getD i false := List.mem_filter.2 ⟨List.mem_range.2 hj, by simpa using h⟩
          rw [hnil] at this
          cases this
      have hrd : Region.ready .any ops lst = [] := by
        cases hr : Region.ready .any ops lst with
        | nil => rfl
        | cons x xs =>
          exfalso
          have hx : x ∈ Region.ready .any ops lst := by rw [hr]; exact List.mem_cons_self
          obtain ⟨h0, o, ho, _⟩ := mem_ready.1 hx
          have hxl : x < ops.size := (Array.getElem?_eq_some_iff.1 ho).1
          have := hallL x hxl
          have hxs : x < lst.size := by omega
          simp [hxs] at h0 this
          rw [h0] at this
          cases this
      refine ⟨hrd, ?_⟩
      have hfill : b = ⟨fillT a.tmps (L.map (·.1)) us, a.defers⟩ := by
        cases b with
        | mk tm df =>
          simp only at hdef hus
          subst hdef
          congr 1
          refine arr_ext fun k => ?_
          rw [hus k, fillT_get]
          have : (∃ j : Nat, lst.getD j false = true ∧ (L[j]?).map (·.1) = some k) ↔ k ∈ L.map (·.1) := by
            constructor
            · rintro ⟨j, _, hj⟩
              obtain ⟨y, hy, rfl⟩ := Option.map_eq_some_iff.1 hj
              exact List.mem_map.2 ⟨y, List.mem_of_getElem? hy, rfl⟩
            · intro hk
              obtain ⟨y, hy, rfl⟩ := List.mem_map.1 hk
              obtain ⟨j, hj, hjy⟩ := List.getElem_of_mem hy
              exact ⟨j, hallL j (by omega), by rw [List.getElem?_eq_getElem hj, hjy]; rfl⟩
          simp only [this]
      rw [hfill]
      refine hfin us W hB (AllF.mk L 0 fun p hp => ?_)
      obtain ⟨⟨d, D, E⟩, j⟩ := p
      have := List.mem_zipIdx hp
      have hj : j < L.length := by omega
      have hjL : L[j]? = some (d, D, E) := by
        rw [List.getElem?_eq_getElem hj]
        have := this.2.2
        simp at this
        rw [← this]
      exact (hφ j (hallL j (by omega)) d D E hjL).1
    | succ fuel ih =>
      intro lst b W hsz hcount hclosed hdef ⟨us, hus, hφ⟩ hB
      refine ⟨fun hr => ?_, fun i hi => ?_⟩
      · -- nothing may come up, though something is left: the least one that is left may
        exfalso
        have hne : ((List.range ops.size).filter fun i => !lst.getD i false) ≠ [] := by intro h; rw [h] at hcount; simp at hcount
        obtain ⟨x, xs, hxs⟩ := List.exists_cons_of_ne_nil hne
        have hx : ∃ i, i < ops.size ∧ lst.getD i false = false := by
          have : x ∈ (List.range ops.size).filter fun i => !lst.getD i false := by rw [hxs]; exact List.mem_cons_self
          obtain ⟨h1, h2⟩ := List.mem_filter.1 this
          exact ⟨x, List.mem_range.1 h1, by simpa using h2⟩
        have hmin : ∀ n, n < ops.size → lst.getD n false = false → ∃ i, i < ops.size ∧ lst.getD i false = false ∧ ∀ j, j < i → lst.getD j false = true := by
          intro n
          induction n using Nat.strongRecOn with
          | _ n ihn =>
            intro hn hnf
            by_cases hex : ∃ j, j < n ∧ lst.getD j false = false
            · obtain ⟨j, hj, hjf⟩ := hex
              exact ihn j hj (by omega) hjf
            · exact ⟨n, hn, hnf, fun j hj => by
                cases hb : lst.getD j false
                · exact absurd ⟨j, hj, hb⟩ hex
                · rfl⟩
        obtain ⟨x0, hx0, hx0f⟩ := hx
        obtain ⟨i, hi, hif, hless⟩ := hmin x0 hx0 hx0f
        obtain ⟨o, d, D, E, ho, _, _, _, hup, _⟩ := hall i hi
        have : i ∈ Region.ready .any ops lst := by
          refine mem_ready.2 ⟨?_, o, ho, fun e he hb => hless _ (hup e he hb)⟩
          have his : i < lst.size := by omega
          simp [his] at hif ⊢
          exact hif
        rw [hr] at this
        cases this
      · obtain ⟨h0, o', ho', hafter⟩ := mem_ready.1 hi
        have hil : i < ops.size := (Array.getElem?_eq_some_iff.1 ho').1
        have his : i < lst.size := by omega
        have hif : lst.getD i false = false := by simp [his] at h0 ⊢; exact h0
        obtain ⟨o, d, D, E, ho, hLi, hd, hdD, hup, hoth, hE⟩ := hall i hil
        have ho2 : o = o' := by rw [ho] at ho'; exact Option.some.inj ho'
        subst ho2
        -- the frame as the operation's obligation has it
        let us' : Nat → Value := fun k => (b.tmps[k]?).getD undef
        have hfill : b = ⟨fillT a.tmps D us', a.defers⟩ := by
          cases b with
          | mk tm df =>
            simp only at hdef hus
            subst hdef
            congr 1
            refine arr_ext fun k => ?_
            rw [fillT_get]
            have hk := hus k
            by_cases hc : k ∈ D ∧ k < a.tmps.size
            · rw [if_pos hc]
              show tm[k]? = some ((tm[k]?).getD undef)
              have hsome : ∃ x, tm[k]? = some x := by
                rw [hk]
                by_cases hc2 : (∃ j : Nat, lst.getD j false = true ∧ (L[j]?).map (·.1) = some k) ∧ k < a.tmps.size
                · rw [if_pos hc2]; exact ⟨_, rfl⟩
                · rw [if_neg hc2, Array.getElem?_eq_getElem hc.2]; exact ⟨_, rfl⟩
              obtain ⟨x, hx⟩ := hsome
              rw [hx]; rfl
            · rw [if_neg hc, hk, if_neg ?_]
              rintro ⟨⟨j, hj, hjk⟩, hks⟩
              obtain ⟨⟨dj, Dj, Ej⟩, hy, rfl⟩ := Option.map_eq_some_iff.1 hjk
              have hjl : j < ops.size := by rw [← hlen]; exact (List.getElem?_eq_some_iff.1 hy).1
              have hji : j ≠ i := by rintro rfl; rw [hif] at hj; cases hj
              obtain ⟨oj, dj', Dj', Ej', hoj, hLj, hdj, hcase⟩ := hoth j hjl hji
              rw [hy] at hLj
              obtain ⟨rfl, rfl, rfl⟩ : dj = dj' ∧ Dj = Dj' ∧ Ej = Ej' := by simpa using hLj
              rcases hcase with h | ⟨e, he, hb, hei⟩
              · exact hc ⟨h, hks⟩
              · have := hclosed j hjl hj oj hoj e he hb
                rw [hei, hif] at this
                cases this
        have hob := MonoAll.get ops.toList L 0 hops i o d D E (by simpa using ho) hLi
        rw [Nat.zero_add] at hob
        have hEs : ∀ p, p ∈ E → φ p.1 (us' p.2) W := by
          intro p hp
          obtain ⟨⟨e, he, hb, hep⟩, Dj, Ej, hLp⟩ := hE p hp
          have hlp : lst.getD p.1 false = true := by rw [← hep]; exact hafter e he hb
          have h1 := (hφ p.1 hlp p.2 Dj Ej hLp).1
          have hks : p.2 < a.tmps.size := hT _ (List.mem_of_getElem? hLp)
          have hk := hus p.2
          rw [if_pos ⟨⟨p.1, hlp, by rw [hLp]; rfl⟩, hks⟩] at hk
          show φ p.1 ((b.tmps[p.2]?).getD undef) W
          rw [hk]
          exact h1
        have hstep := hob us' W hB (AllE.mk E hEs) (wpAny P .any ops Q fuel (lst.setIfInBounds i true)) ?_
        · rw [← hfill] at hstep
          unfold wpOp
          rw [ho]
          dsimp only
          simp only [wpList] at hstep
          by_cases hw : Region.wanted o (yielded ops b.tmps) = true
          · rw [if_pos hw] at hstep ⊢
            rcases hstep with h | ⟨h, h'⟩
            · refine .inl ?_
              unfold Oper.wp at h ⊢
              generalize (execOp b.eval o).run P W = r at h ⊢
              cases r with
              | ok n w' => cases n <;> exact h
              | halt x w' => cases x <;> exact h
            · exact .inr ⟨h, h'⟩
          · rw [if_neg hw] at hstep ⊢
            exact hstep
        · intro v W' hW hφi
          rw [← hfill]
          have hdT : d < a.tmps.size := hT _ (List.mem_of_getElem? hLi)
          have hbs : b.tmps.size = a.tmps.size := by
            rw [hfill]
            show (fillT a.tmps D us').size = _
            have : ∀ (ds : List Nat) (t : Array Value), (fillT t ds us').size = t.size := by
              intro ds
              induction ds with
              | nil => intro t; rfl
              | cons x ds ihd => intro t; rw [fillT, ihd, Array.size_setIfInBounds]
            exact this D a.tmps
          have hset : ∀ j, (lst.setIfInBounds i true).getD j false = if j = i then true else lst.getD j false := by
            intro j
            by_cases hji : j = i
            · subst hji; simp [his]
            · rw [if_neg hji, getD_set_ne false (Ne.symm hji)]
          refine ih (lst.setIfInBounds i true) (b.put o.dst v) W' (by rw [Array.size_setIfInBounds]; exact hsz) ?_ ?_ ?_ ?_ (hB.trans (hW.mono hB.size))
          · -- one less is left
            have hcnt : ∀ (l : List Nat), l.Nodup → i ∈ l → (l.filter fun j => !(lst.setIfInBounds i true).getD j false).length + 1 = (l.filter fun j => !lst.getD j false).length := by
              intro l
              induction l with
              | nil => intro _ h; cases h
              | cons x l ihl =>
                intro hnd hmem
                have hnd' := List.nodup_cons.1 hnd
                by_cases hxi : x = i
                · subst hxi
                  have hrest : l.filter (fun j => !(lst.setIfInBounds x true).getD j false) = l.filter (fun j => !lst.getD j false) := by
                    refine List.filter_congr fun j hj => ?_
                    rw [hset j, if_neg (fun (e : j = x) => hnd'.1 (by rw [← e]; exact hj))]
                  rw [List.filter_cons, List.filter_cons, hset x, if_pos rfl, hif, hrest]
                  simp
                · have hm : i ∈ l := (List.mem_cons.1 hmem).resolve_left (fun e => hxi e.symm)
                  have := ihl hnd'.2 hm
                  rw [List.filter_cons, List.filter_cons, hset x, if_neg hxi]
                  by_cases hxl : lst.getD x false = true
                  · simp only [hxl, Bool.not_true, Bool.false_eq_true, if_false]; exact this
                  · have hxl' : lst.getD x false = false := by simpa using hxl
                    simp only [hxl', Bool.not_false, if_true, List.length_cons]; omega
            have := hcnt (List.range ops.size) List.nodup_range (List.mem_range.2 hil)
            omega
          · intro j hj hjl oj hoj e he hb
            rw [hset] at hjl ⊢
            by_cases hei : e.on = i
            · rw [if_pos hei]
            · rw [if_neg hei]
              by_cases hji : j = i
              · subst hji
                rw [ho] at hoj
                obtain rfl := Option.some.inj hoj
                exact hafter e he hb
              · rw [if_neg hji] at hjl
                exact hclosed j hj hjl oj hoj e he hb
          · rw [hd]; exact hdef
          · refine ⟨fun k => if k = d then v else us k, fun k => ?_, fun j hj dj Dj Ej hLj => ?_⟩
            · rw [hd]
              show (b.tmps.setIfInBounds d v)[k]? = _
              by_cases hkd : k = d
              · subst hkd
                rw [if_pos ⟨⟨i, by rw [hset, if_pos rfl], by rw [hLi]; rfl⟩, hdT⟩]
                simp [hbs, hdT]
              · rw [Array.getElem?_setIfInBounds_ne (Ne.symm hkd), hus k]
                have hv : (fun k => if k = d then v else us k) k = us k := if_neg hkd
                rw [hv]
                have : (∃ j : Nat, (lst.setIfInBounds i true).getD j false = true ∧ (L[j]?).map (·.1) = some k) ↔ (∃ j : Nat, lst.getD j false = true ∧ (L[j]?).map (·.1) = some k) := by
                  constructor
                  · rintro ⟨j, h1, h2⟩
                    rw [hset] at h1
                    by_cases hji : j = i
                    · exfalso
                      subst hji
                      rw [hLi] at h2
                      exact hkd (by simpa using h2.symm)
                    · rw [if_neg hji] at h1
                      exact ⟨j, h1, h2⟩
                  · rintro ⟨j, h1, h2⟩
                    exact ⟨j, by rw [hset]; split <;> simp_all, h2⟩
                simp only [this]
            · rw [hset] at hj
              by_cases hji : j = i
              · subst hji
                rw [hLi] at hLj
                obtain ⟨rfl, rfl, rfl⟩ : d = dj ∧ D = Dj ∧ E = Ej := by simpa using hLj
                have hv : (fun k => if k = d then v else us k) d = v := if_pos rfl
                rw [hv]
                exact ⟨hφi W' (Below.refl _ _), hφi⟩
              · rw [if_neg hji] at hj
                have hjl : j < ops.size := by rw [← hlen]; exact (List.getElem?_eq_some_iff.1 hLj).1
                obtain ⟨oj, dj', Dj', Ej', hoj, hLj', hdj, _⟩ := hoth j hjl hji
                rw [hLj] at hLj'
                obtain ⟨rfl, rfl, rfl⟩ : dj = dj' ∧ Dj = Dj' ∧ Ej = Ej' := by simpa using hLj'
                have hv : (fun k => if k = d then v else us k) dj = us dj := if_neg hdj
                rw [hv]
                have := (hφ j hj dj Dj Ej hLj).2
                exact ⟨this W' hW, fun W'' h => this W'' (hW.trans (h.mono hW.size))⟩
  have hrep : ∀ j, (Array.replicate ops.size false).getD j false = false := by
    intro j
    unfold Array.getD
    split <;> simp
  refine wp_region_any hm (key ops.size _ a w.drew (by simp) ?_ ?_ rfl ⟨fun _ => undef, fun k => ?_, fun j hj => ?_⟩ (Below.refl _ _))
  · rw [List.filter_eq_self.2 (fun j hj => by rw [hrep]; rfl)]
    simp
  · intro j hj h
    rw [hrep] at h
    cases h
  · rw [if_neg]
    rintro ⟨⟨j, h, _⟩, _⟩
    rw [hrep] at h
    cases h
  · rw [hrep] at hj
    cases hj
end Go.Proofs.YtcohgkiloaapcaaDoor

/- A law for a region that draws its order and ends in a tail: the first n operations only add to memory and come in whatever order; the rest come in the order in which they are written. Of operations that M numbers the value is a new block. No program stands in it. -/
import Derived.Test.YtcohgkiloaapcaaDoorR0
import Derived.StillTail
namespace Go.Proofs.YtcohgkiloaapcaaDoor
open Go.RowKit

/-- The block that a pointer points to. -/
def blkOf : Value → Nat
  | .pointer (some a) => a.block
  | _ => 0
/-- Which operations have come up when the head is through. -/
def listedN (n m : Nat) : Array Bool := (List.range m).toArray.map fun i => decide (i < n)
theorem listedN_get (n m k : Nat) : (listedN n m)[k]? = if k < m then some (decide (k < n)) else none := by
  unfold listedN
  by_cases h : k < m <;> simp [h]

/-- What is asked of each operation. i: its number; o: itself; D: the temporaries that may be filled; E: whose values it may use (number, temporary). -/
def TailOp (P : Program) (ops : Array Oper) (Q : Exit → Act → World → Prop) (a : Act) (W0 : World) (φ : Nat → Value → World → Prop) (M : List Nat) (i : Nat) (o : Oper) (D : List Nat) (E : List (Nat × Nat)) : Prop :=
  ∀ (us : Nat → Value) (W : World), Below W0.heap.size W0 W → AllE φ us W E → ∀ K : Act → World → Prop,
    (∀ v W', Below W.heap.size W W' → (∀ W'', Below W'.heap.size W' W'' → φ i v W'') → (i ∈ M → W.heap.size ≤ blkOf v ∧ blkOf v < W'.heap.size) → K ((⟨fillT a.tmps D us, a.defers⟩ : Act).put o.dst v) W') →
    wpList P ops (monoQ Q K) [o] ⟨fillT a.tmps D us, a.defers⟩ W

/-- What the closed facts say of a region: sizes, temporaries. -/
def headOk (ops : Array Oper) (n : Nat) (L : List (Nat × List Nat × List (Nat × Nat))) : Bool :=
  L.length == n && decide (n < ops.size) && Region.sinkB .any ops n && Region.chainB .any ops n && Region.seqB .any ops (ops.size - n) n (listedN n ops.size) &&
  (List.range n).all fun i => match ops[i]?, L[i]? with
    | some o, some (d, D, E) =>
      o.dst == some d && !D.contains d && (o.after.all fun e => !Region.binds .any e || decide (e.on < i)) &&
      ((List.range n).all fun j => j == i || (match ops[j]?, L[j]? with
        | some oj, some (dj, _, _) => dj != d && (D.contains dj || oj.after.any fun e => Region.binds .any e && e.on == i)
        | _, _ => false)) &&
      (E.all fun p => (o.after.any fun e => Region.binds .any e && e.on == p.1) && (match L[p.1]? with | some (dj, _, _) => dj == p.2 | none => false))
    | _, _ => false

def TailAll (P : Program) (ops : Array Oper) (Q : Exit → Act → World → Prop) (a : Act) (W0 : World) (φ : Nat → Value → World → Prop) (M : List Nat) : Nat → List Oper → List (Nat × List Nat × List (Nat × Nat)) → Prop
  | i, o :: os, (_, D, E) :: L => TailOp P ops Q a W0 φ M i o D E ∧ TailAll P ops Q a W0 φ M (i + 1) os L
  | _, _, _ => True

theorem TailAll.get {P : Program} {ops : Array Oper} {Q : Exit → Act → World → Prop} {a : Act} {W0 : World} {φ : Nat → Value → World → Prop} {M : List Nat} :
    ∀ (os : List Oper) (L : List (Nat × List Nat × List (Nat × Nat))) (k : Nat), TailAll P ops Q a W0 φ M k os L → ∀ (i : Nat) (o : Oper) (d : Nat) (D : List Nat) (E : List (Nat × Nat)), os[i]? = some o → L[i]? = some (d, D, E) → TailOp P ops Q a W0 φ M (k + i) o D E
  | [], _, _, _, i, o, d, D, E, ho, _ => by simp at ho
  | _ :: _, [], _, _, i, o, d, D, E, _, hL => by simp at hL
  | o0 :: os, (d0, D0, E0) :: L, k, h, i, o, d, D, E, ho, hL => by
    cases i with
    | zero =>
      simp only [List.getElem?_cons_zero, Option.some.injEq, Prod.mk.injEq] at ho hL
      obtain ⟨rfl, rfl, rfl⟩ := hL
      subst ho
      exact h.1
    | succ i =>
      have := TailAll.get os L (k + 1) h.2 i o d D E (by simpa using ho) (by simpa using hL)
      rwa [show k + 1 + i = k + (i + 1) by omega] at this

open Classical in
theorem wp_region_tail {P : Program} {ops : Array Oper} {Q : Exit → Act → World → Prop} {id : Nat} {a : Act} {w : World} (hm : P.follows .mixedOrders = true)
    (n : Nat) (M : List Nat) (L : List (Nat × List Nat × List (Nat × Nat))) (hL : headOk ops n L = true) (φ : Nat → Value → World → Prop)
    (hT : ∀ x, x ∈ L → x.1 < a.tmps.size) (hops : TailAll P ops Q a w.drew φ M 0 (ops.toList.take n) L)
    (hfin : ∀ (us : Nat → Value) (W : World), Below w.drew.heap.size w.drew W → AllF φ us W 0 L → (∀ i j di Di Ei dj Dj Ej, i ∈ M → j ∈ M → i ≠ j → L[i]? = some (di, Di, Ei) → L[j]? = some (dj, Dj, Ej) → blkOf (us di) ≠ blkOf (us dj)) →
      wpList P ops Q (ops.toList.drop n) ⟨fillT a.tmps (L.map (·.1)) us, a.defers⟩ W) :
    (Code.region id ops true).wp P Q a w := by
  have hok : L.length = n ∧ n < ops.size ∧ Region.sinkB .any ops n = true ∧ Region.chainB .any ops n = true ∧ Region.seqB .any ops (ops.size - n) n (listedN n ops.size) = true ∧ ∀ i, i < n → ∃ o d D E, ops[i]? = some o ∧ L[i]? = some (d, D, E) ∧ o.dst = some d ∧ d ∉ D ∧ (∀ e ∈ o.after, Region.binds .any e = true → e.on < i) ∧
      (∀ j, j < n → j ≠ i → ∃ oj dj Dj Ej, ops[j]? = some oj ∧ L[j]? = some (dj, Dj, Ej) ∧ dj ≠ d ∧ (dj ∈ D ∨ ∃ e ∈ oj.after, Region.binds .any e = true ∧ e.on = i)) ∧
      (∀ p ∈ E, (∃ e ∈ o.after, Region.binds .any e = true ∧ e.on = p.1) ∧ ∃ Dj Ej, L[p.1]? = some (p.2, Dj, Ej)) := by
    unfold headOk at hL
    simp only [Bool.and_eq_true] at hL
    refine ⟨by simpa using hL.1.1.1.1.1, by simpa using hL.1.1.1.1.2, hL.1.1.1.2, hL.1.1.2, hL.1.2, fun i hi => ?_⟩
    have h := List.all_eq_true.1 hL.2 i (List.mem_range.2 hi)
    cases ho : ops[i]? with
    | none => simp [ho] at h
    | some o =>
      cases hl : L[i]? with
      | none => simp [ho, hl] at h
      | some x =>
        obtain ⟨d, D, E⟩ := x
        simp only [ho, hl, Bool.and_eq_true] at h
        obtain ⟨⟨⟨⟨h1, h2⟩, h5⟩, h3⟩, h4⟩ := h
        refine ⟨o, d, D, E, rfl, rfl, by simpa using h1, by simpa using h2, fun e he hb => ?_, fun j hj hne => ?_, fun p hp => ?_⟩
        · have := Array.all_eq_true_iff_forall_mem.1 h5 e he
          simp only [hb, Bool.not_true, Bool.false_or, decide_eq_true_eq] at this
          exact this
        · have h := List.all_eq_true.1 h3 j (List.mem_range.2 hj)
          cases hoj : ops[j]? with
          | none => simp [hoj, hne] at h
          | some oj =>
            cases hlj : L[j]? with
            | none => simp [hoj, hlj, hne] at h
            | some y =>
              obtain ⟨dj, Dj, Ej⟩ := y
              simp only [hoj, hlj, Bool.or_eq_true, beq_iff_eq, hne, false_or, Bool.and_eq_true, bne_iff_ne, ne_eq] at h
              refine ⟨oj, dj, Dj, Ej, rfl, rfl, h.1, ?_⟩
              rcases h.2 with h | h
              · exact .inl (by simpa using h)
              · obtain ⟨e, he, hb⟩ := Array.any_eq_true'.1 h
                simp only [Bool.and_eq_true, beq_iff_eq] at hb
                exact .inr ⟨e, he, hb.1, hb.2⟩
        · have h := List.all_eq_true.1 h4 p hp
          rw [Bool.and_eq_true] at h
          refine ⟨?_, ?_⟩
          · obtain ⟨e, he, hb⟩ := Array.any_eq_true'.1 h.1
            simp only [Bool.and_eq_true, beq_iff_eq] at hb
            exact ⟨e, he, hb.1, hb.2⟩
          · cases hlj : L[p.1]? with
            | none => simp [hlj] at h
            | some y =>
              obtain ⟨dj, Dj, Ej⟩ := y
              simp only [hlj, beq_iff_eq] at h
              exact ⟨Dj, Ej, by rw [h.2]⟩
  obtain ⟨hlen, hns, hsink, hchain, hseq, hall⟩ := hok
  -- the invariant
  have key : ∀ (fuel : Nat) (lst : Array Bool) (b : Act) (W : World), lst.size = ops.size →
      ((List.range n).filter fun i => !lst.getD i false).length = fuel → (∀ t, n ≤ t → t < ops.size → lst.getD t true = false) →
      (∀ j, j < n → lst.getD j false = true → ∀ o, ops[j]? = some o → ∀ e ∈ o.after, Region.binds .any e = true → lst.getD e.on false = true) →
      b.defers = a.defers →
      (∃ us : Nat → Value, (∀ k, b.tmps[k]? = if (∃ j : Nat, lst.getD j false = true ∧ (L[j]?).map (·.1) = some k) ∧ k < a.tmps.size then some (us k) else a.tmps[k]?) ∧
        (∀ j, lst.getD j false = true → ∀ d D E, L[j]? = some (d, D, E) → φ j (us d) W ∧ ∀ W', Below W.heap.size W W' → φ j (us d) W') ∧
        (∀ i, lst.getD i false = true → ∀ d D E, L[i]? = some (d, D, E) → i ∈ M → blkOf (us d) < W.heap.size) ∧
        (∀ i j, lst.getD i false = true → lst.getD j false = true → ∀ di Di Ei dj Dj Ej, L[i]? = some (di, Di, Ei) → L[j]? = some (dj, Dj, Ej) → i ∈ M → j ∈ M → i ≠ j → blkOf (us di) ≠ blkOf (us dj))) →
      Below w.drew.heap.size w.drew W → wpAny P .any ops Q (fuel + (ops.size - n)) lst b W := by
    classical
    intro fuel
    induction fuel with
    | zero =>
      intro lst b W hsz hcount htl hclosed hdef ⟨us, hus, hφ, hlt, hpr⟩ hB
      have hallL : ∀ j, j < n → lst.getD j false = true := by
        intro j hj
        have hnil := List.eq_nil_of_length_eq_zero hcount
        by_cases h : lst.getD j false = true
        · exact h
        · exfalso
          have : j ∈ (List.range n).filter fun i => !lst.getD i false := List.mem_filter.2 ⟨List.mem_range.2 hj, by simpa using h⟩
          rw [hnil] at this
          cases this
      have hlst : lst = listedN n ops.size := by
        refine Array.ext_getElem? fun k => ?_
        rw [listedN_get]
        by_cases hk : k < ops.size
        · rw [if_pos hk]
          have hks : k < lst.size := by omega
          by_cases hkn : k < n
          · have := hallL k hkn
            simp [hks] at this
            simp [hks, this, hkn]
          · have := htl k (by omega) hk
            simp [hks] at this
            simp [hks, this, hkn]
        · rw [if_neg hk, Array.getElem?_eq_none (by omega)]
      rw [Nat.zero_add, show ops.size - n = (ops.toList.drop n).length by simp]
      refine wpAny_of_seq (ops.toList.drop n) n lst b W (fun j => by simp) (by rw [hlst, List.length_drop, Array.length_toList]; exact hseq) ?_
      have hfill : b = ⟨fillT a.tmps (L.map (·.1)) us, a.defers⟩ := by
        cases b with
        | mk tm df =>
          simp only at hdef hus
          subst hdef
          congr 1
          refine arr_ext fun k => ?_
          rw [hus k, fillT_get]
          have : (∃ j : Nat, lst.getD j false = true ∧ (L[j]?).map (·.1) = some k) ↔ k ∈ L.map (·.1) := by
            constructor
            · rintro ⟨j, _, hj⟩
              obtain ⟨y, hy, rfl⟩ := Option.map_eq_some_iff.1 hj
              exact List.mem_map.2 ⟨y, List.mem_of_getElem? hy, rfl⟩
            · intro hk
              obtain ⟨y, hy, rfl⟩ := List.mem_map.1 hk
              obtain ⟨j, hj, hjy⟩ := List.getElem_of_mem hy
              exact ⟨j, hallL j (by omega), by rw [List.getElem?_eq_getElem hj, hjy]; rfl⟩
          simp only [this]
      rw [hfill]
      refine hfin us W hB (AllF.mk L 0 fun p hp => ?_) (fun i j di Di Ei dj Dj Ej hi hj hne h1 h2 => hpr i j (hallL i (by have := (List.getElem?_eq_some_iff.1 h1).1; omega)) (hallL j (by have := (List.getElem?_eq_some_iff.1 h2).1; omega)) di Di Ei dj Dj Ej h1 h2 hi hj hne)
      obtain ⟨⟨d, D, E⟩, j⟩ := p
      have := List.mem_zipIdx hp
      have hj : j < L.length := by omega
      have hjL : L[j]? = some (d, D, E) := by
        rw [List.getElem?_eq_getElem hj]
        have := this.2.2
        simp at this
        rw [← this]
      exact (hφ j (hallL j (by omega)) d D E hjL).1
    | succ fuel ih =>
      intro lst b W hsz hcount htl hclosed hdef ⟨us, hus, hφ, hlt, hpr⟩ hB
      have hne0 : ((List.range n).filter fun i => !lst.getD i false) ≠ [] := by intro h; rw [h] at hcount; simp at hcount
      obtain ⟨x1, hx1, hx1f⟩ : ∃ i, i < n ∧ lst.getD i false = false := by
        obtain ⟨x, xs, hxs⟩ := List.exists_cons_of_ne_nil hne0
        have : x ∈ (List.range n).filter fun i => !lst.getD i false := by rw [hxs]; exact List.mem_cons_self
        obtain ⟨h1, h2⟩ := List.mem_filter.1 this
        exact ⟨x, List.mem_range.1 h1, by simpa using h2⟩
      have inv : HeadInv .any ops n lst := ⟨hsz, fun j oj hoj hl e he hb => hclosed j (by
        rcases Nat.lt_or_ge j n with h | h
        · exact h
        · have hj : j < ops.size := (Array.getElem?_eq_some_iff.1 hoj).1
          have := getD_both (htl j h hj)
          rw [hl] at this
          cases this) hl oj hoj e he hb, htl⟩
      have hhead : ∀ t, t ∈ Region.ready .any ops lst → t < n := fun t ht => by
        rcases Nat.lt_or_ge t n with h | h
        · exact h
        · exact absurd ht (tail_waits hsink hchain hns inv _ x1 rfl hx1 (getD_in (by omega) hx1f) t h)
      rw [show fuel + 1 + (ops.size - n) = (fuel + (ops.size - n)) + 1 by omega]
      refine ⟨fun hr => ?_, fun i hi => ?_⟩
      · -- nothing may come up, though something is left: the least one that is left may
        exfalso
        have hne : ((List.range n).filter fun i => !lst.getD i false) ≠ [] := by intro h; rw [h] at hcount; simp at hcount
        obtain ⟨x, xs, hxs⟩ := List.exists_cons_of_ne_nil hne
        have hx : ∃ i, i < n ∧ lst.getD i false = false := by
          have : x ∈ (List.range n).filter fun i => !lst.getD i false := by rw [hxs]; exact List.mem_cons_self
          obtain ⟨h1, h2⟩ := List.mem_filter.1 this
          exact ⟨x, List.mem_range.1 h1, by simpa using h2⟩
        have hmin : ∀ t, t < n → lst.getD t false = false → ∃ i, i < n ∧ lst.getD i false = false ∧ ∀ j, j < i → lst.getD j false = true := by
          intro t
          induction t using Nat.strongRecOn with
          | _ t ihn =>
            intro hn hnf
            by_cases hex : ∃ j, j < t ∧ lst.getD j false = false
            · obtain ⟨j, hj, hjf⟩ := hex
              exact ihn j hj (by omega) hjf
            · exact ⟨t, hn, hnf, fun j hj => by
                cases hb : lst.getD j false
                · exact absurd ⟨j, hj, hb⟩ hex
                · rfl⟩
        obtain ⟨x0, hx0, hx0f⟩ := hx
        obtain ⟨i, hi, hif, hless⟩ := hmin x0 hx0 hx0f
        obtain ⟨o, d, D, E, ho, _, _, _, hup, _⟩ := hall i hi
        have : i ∈ Region.ready .any ops lst := by
          refine mem_ready.2 ⟨?_, o, ho, fun e he hb => hless _ (hup e he hb)⟩
          have his : i < lst.size := by omega
          simp [his] at hif ⊢
          exact hif
        rw [hr] at this
        cases this
      · obtain ⟨h0, o', ho', hafter⟩ := mem_ready.1 hi
        have hil : i < n := hhead i hi
        have his : i < lst.size := by omega
        have hif : lst.getD i false = false := by simp [his] at h0 ⊢; exact h0
        obtain ⟨o, d, D, E, ho, hLi, hd, hdD, hup, hoth, hE⟩ := hall i hil
        have ho2 : o = o' := by rw [ho] at ho'; exact Option.some.inj ho'
        subst ho2
        -- the frame as the operation's obligation has it
        let us' : Nat → Value := fun k => (b.tmps[k]?).getD undef
        have hfill : b = ⟨fillT a.tmps D us', a.defers⟩ := by
          cases b with
          | mk tm df =>
            simp only at hdef hus
            subst hdef
            congr 1
            refine arr_ext fun k => ?_
            rw [fillT_get]
            have hk := hus k
            by_cases hc : k ∈ D ∧ k < a.tmps.size
            · rw [if_pos hc]
              show tm[k]? = some ((tm[k]?).getD undef)
              have hsome : ∃ x, tm[k]? = some x := by
                rw [hk]
                by_cases hc2 : (∃ j : Nat, lst.getD j false = true ∧ (L[j]?).map (·.1) = some k) ∧ k < a.tmps.size
                · rw [if_pos hc2]; exact ⟨_, rfl⟩
                · rw [if_neg hc2, Array.getElem?_eq_getElem hc.2]; exact ⟨_, rfl⟩
              obtain ⟨x, hx⟩ := hsome
              rw [hx]; rfl
            · rw [if_neg hc, hk, if_neg ?_]
              rintro ⟨⟨j, hj, hjk⟩, hks⟩
              obtain ⟨⟨dj, Dj, Ej⟩, hy, rfl⟩ := Option.map_eq_some_iff.1 hjk
              have hjl : j < n := by rw [← hlen]; exact (List.getElem?_eq_some_iff.1 hy).1
              have hji : j ≠ i := by rintro rfl; rw [hif] at hj; cases hj
              obtain ⟨oj, dj', Dj', Ej', hoj, hLj, hdj, hcase⟩ := hoth j hjl hji
              rw [hy] at hLj
              obtain ⟨rfl, rfl, rfl⟩ : dj = dj' ∧ Dj = Dj' ∧ Ej = Ej' := by simpa using hLj
              rcases hcase with h | ⟨e, he, hb, hei⟩
              · exact hc ⟨h, hks⟩
              · have := hclosed j hjl hj oj hoj e he hb
                rw [hei, hif] at this
                cases this
        have hob := TailAll.get (ops.toList.take n) L 0 hops i o d D E (by rw [List.getElem?_take, if_pos hil]; simpa using ho) hLi
        rw [Nat.zero_add] at hob
        have hEs : ∀ p, p ∈ E → φ p.1 (us' p.2) W := by
          intro p hp
          obtain ⟨⟨e, he, hb, hep⟩, Dj, Ej, hLp⟩ := hE p hp
          have hlp : lst.getD p.1 false = true := by rw [← hep]; exact hafter e he hb
          have h1 := (hφ p.1 hlp p.2 Dj Ej hLp).1
          have hks : p.2 < a.tmps.size := hT _ (List.mem_of_getElem? hLp)
          have hk := hus p.2
          rw [if_pos ⟨⟨p.1, hlp, by rw [hLp]; rfl⟩, hks⟩] at hk
          show φ p.1 ((b.tmps[p.2]?).getD undef) W
          rw [hk]
          exact h1
        have hstep := hob us' W hB (AllE.mk E hEs) (wpAny P .any ops Q (fuel + (ops.size - n)) (lst.setIfInBounds i true)) ?_
        · rw [← hfill] at hstep
          unfold wpOp
          rw [ho]
          dsimp only
          simp only [wpList] at hstep
          by_cases hw : Region.wanted o (yielded ops b.tmps) = true
          · rw [if_pos hw] at hstep ⊢
            rcases hstep with h | ⟨h, h'⟩
            · refine .inl ?_
              unfold Oper.wp at h ⊢
              generalize (execOp b.eval o).run P W = r at h ⊢
              cases r with
              | ok n w' => cases n <;> exact h
              | halt x w' => cases x <;> exact h
            · exact .inr ⟨h, h'⟩
          · rw [if_neg hw] at hstep ⊢
            exact hstep
        · intro v W' hW hφi hMi
          rw [← hfill]
          have hdT : d < a.tmps.size := hT _ (List.mem_of_getElem? hLi)
          have hbs : b.tmps.size = a.tmps.size := by
            rw [hfill]
            show (fillT a.tmps D us').size = _
            have : ∀ (ds : List Nat) (t : Array Value), (fillT t ds us').size = t.size := by
              intro ds
              induction ds with
              | nil => intro t; rfl
              | cons x ds ihd => intro t; rw [fillT, ihd, Array.size_setIfInBounds]
            exact this D a.tmps
          have hset : ∀ j, (lst.setIfInBounds i true).getD j false = if j = i then true else lst.getD j false := by
            intro j
            by_cases hji : j = i
            · subst hji; simp [his]
            · rw [if_neg hji, getD_set_ne false (Ne.symm hji)]
          refine ih (lst.setIfInBounds i true) (b.put o.dst v) W' (by rw [Array.size_setIfInBounds]; exact hsz) ?_ (fun t ht hts => by rw [getD_set_ne true (by omega)]; exact htl t ht hts) ?_ ?_ ?_ (hB.trans (hW.mono hB.size))
          · -- one less is left
            have hcnt : ∀ (l : List Nat), l.Nodup → i ∈ l → (l.filter fun j => !(lst.setIfInBounds i true).getD j false).length + 1 = (l.filter fun j => !lst.getD j false).length := by
              intro l
              induction l with
              | nil => intro _ h; cases h
              | cons x l ihl =>
                intro hnd hmem
                have hnd' := List.nodup_cons.1 hnd
                by_cases hxi : x = i
                · subst hxi
                  have hrest : l.filter (fun j => !(lst.setIfInBounds x true).getD j false) = l.filter (fun j => !lst.getD j false) := by
                    refine List.filter_congr fun j hj => ?_
                    rw [hset j, if_neg (fun (e : j = x) => hnd'.1 (by rw [← e]; exact hj))]
                  rw [List.filter_cons, List.filter_cons, hset x, if_pos rfl, hif, hrest]
                  simp
                · have hm : i ∈ l := (List.mem_cons.1 hmem).resolve_left (fun e => hxi e.symm)
                  have := ihl hnd'.2 hm
                  rw [List.filter_cons, List.filter_cons, hset x, if_neg hxi]
                  by_cases hxl : lst.getD x false = true
                  · simp only [hxl, Bool.not_true, Bool.false_eq_true, if_false]; exact this
                  · have hxl' : lst.getD x false = false := by simpa using hxl
                    simp only [hxl', Bool.not_false, if_true, List.length_cons]; omega
            have := hcnt (List.range n) List.nodup_range (List.mem_range.2 hil)
            omega
          · intro j hj hjl oj hoj e he hb
            rw [hset] at hjl ⊢
            by_cases hei : e.on = i
            · rw [if_pos hei]
            · rw [if_neg hei]
              by_cases hji : j = i
              · subst hji
                rw [ho] at hoj
                obtain rfl := Option.some.inj hoj
                exact hafter e he hb
              · rw [if_neg hji] at hjl
                exact hclosed j hj hjl oj hoj e he hb
          · rw [hd]; exact hdef
          · have hv0 : (fun k => if k = d then v else us k) d = v := if_pos rfl
            have hoth2 : ∀ j dj Dj Ej, j ≠ i → L[j]? = some (dj, Dj, Ej) → (fun k => if k = d then v else us k) dj = us dj := fun j dj Dj Ej hji hLj => by
              have hjl : j < n := by rw [← hlen]; exact (List.getElem?_eq_some_iff.1 hLj).1
              obtain ⟨oj, dj', Dj', Ej', hoj, hLj', hdj, _⟩ := hoth j hjl hji
              rw [hLj] at hLj'
              obtain ⟨rfl, rfl, rfl⟩ : dj = dj' ∧ Dj = Dj' ∧ Ej = Ej' := by simpa using hLj'
              exact if_neg hdj
            have hof : ∀ {j : Nat}, j ≠ i → (lst.setIfInBounds i true).getD j false = true → lst.getD j false = true := fun hji h => by rwa [hset, if_neg hji] at h
            refine ⟨fun k => if k = d then v else us k, fun k => ?_, fun j hj dj Dj Ej hLj => ?_, fun j hj dj Dj Ej hLj hjM => ?_, fun j1 j2 h1 h2 d1 D1 E1 d2 D2 E2 hL1 hL2 hM1 hM2 hne => ?_⟩
            · rw [hd]
              show (b.tmps.setIfInBounds d v)[k]? = _
              by_cases hkd : k = d
              · subst hkd
                rw [if_pos ⟨⟨i, by rw [hset, if_pos rfl], by rw [hLi]; rfl⟩, hdT⟩]
                simp [hbs, hdT]
              · rw [Array.getElem?_setIfInBounds_ne (Ne.symm hkd), hus k]
                have hv : (fun k => if k = d then v else us k) k = us k := if_neg hkd
                rw [hv]
                have : (∃ j : Nat, (lst.setIfInBounds i true).getD j false = true ∧ (L[j]?).map (·.1) = some k) ↔ (∃ j : Nat, lst.getD j false = true ∧ (L[j]?).map (·.1) = some k) := by
                  constructor
                  · rintro ⟨j, h1, h2⟩
                    rw [hset] at h1
                    by_cases hji : j = i
                    · exfalso
                      subst hji
                      rw [hLi] at h2
                      exact hkd (by simpa using h2.symm)
                    · rw [if_neg hji] at h1
                      exact ⟨j, h1, h2⟩
                  · rintro ⟨j, h1, h2⟩
                    exact ⟨j, by rw [hset]; split <;> simp_all, h2⟩
                simp only [this]
            · rw [hset] at hj
              by_cases hji : j = i
              · subst hji
                rw [hLi] at hLj
                obtain ⟨rfl, rfl, rfl⟩ : d = dj ∧ D = Dj ∧ E = Ej := by simpa using hLj
                have hv : (fun k => if k = d then v else us k) d = v := if_pos rfl
                rw [hv]
                exact ⟨hφi W' (Below.refl _ _), hφi⟩
              · rw [if_neg hji] at hj
                have hjl : j < n := by rw [← hlen]; exact (List.getElem?_eq_some_iff.1 hLj).1
                obtain ⟨oj, dj', Dj', Ej', hoj, hLj', hdj, _⟩ := hoth j hjl hji
                rw [hLj] at hLj'
                obtain ⟨rfl, rfl, rfl⟩ : dj = dj' ∧ Dj = Dj' ∧ Ej = Ej' := by simpa using hLj'
                have hv : (fun k => if k = d then v else us k) dj = us dj := if_neg hdj
                rw [hv]
                have := (hφ j hj dj Dj Ej hLj).2
                exact ⟨this W' hW, fun W'' h => this W'' (hW.trans (h.mono hW.size))⟩
            · by_cases hji : j = i
              · subst hji
                rw [hLi] at hLj
                obtain ⟨rfl, rfl, rfl⟩ : d = dj ∧ D = Dj ∧ E = Ej := by simpa using hLj
                rw [hv0]
                exact (hMi hjM).2
              · rw [hoth2 j dj Dj Ej hji hLj]
                exact Nat.lt_of_lt_of_le (hlt j (hof hji hj) dj Dj Ej hLj hjM) hW.size
            · by_cases h1i : j1 = i
              · subst h1i
                rw [hLi] at hL1
                obtain ⟨rfl, rfl, rfl⟩ : d = d1 ∧ D = D1 ∧ E = E1 := by simpa using hL1
                rw [hv0, hoth2 j2 d2 D2 E2 (Ne.symm hne) hL2]
                have := hlt j2 (hof (Ne.symm hne) h2) d2 D2 E2 hL2 hM2
                have := (hMi hM1).1
                omega
              · by_cases h2i : j2 = i
                · subst h2i
                  rw [hLi] at hL2
                  obtain ⟨rfl, rfl, rfl⟩ : d = d2 ∧ D = D2 ∧ E = E2 := by simpa using hL2
                  rw [hv0, hoth2 j1 d1 D1 E1 h1i hL1]
                  have := hlt j1 (hof h1i h1) d1 D1 E1 hL1 hM1
                  have := (hMi hM2).1
                  omega
                · rw [hoth2 j1 d1 D1 E1 h1i hL1, hoth2 j2 d2 D2 E2 h2i hL2]
                  exact hpr j1 j2 (hof h1i h1) (hof h2i h2) d1 D1 E1 d2 D2 E2 hL1 hL2 hM1 hM2 hne
  have hrep : ∀ j, (Array.replicate ops.size false).getD j false = false := by
    intro j
    unfold Array.getD
    split <;> simp
  have hk := key n (Array.replicate ops.size false) a w.drew (by simp) ?_ (fun t _ ht => by simp [ht]) ?_ rfl ⟨fun _ => undef, fun k => ?_, fun j hj => ?_, fun j hj => ?_, fun j1 j2 hj => ?_⟩ (Below.refl _ _)
  · rw [show n + (ops.size - n) = ops.size by omega] at hk
    exact wp_region_any hm hk
  · rw [List.filter_eq_self.2 (fun j hj => by rw [hrep]; rfl)]
    simp
  · intro j hj h
    rw [hrep] at h
    cases h
  · rw [if_neg]
    rintro ⟨⟨j, h, _⟩, _⟩
    rw [hrep] at h
    cases h
  · rw [hrep] at hj
    cases hj
  · rw [hrep] at hj
    cases hj
  · rw [hrep] at hj
    cases hj
end Go.Proofs.YtcohgkiloaapcaaDoor

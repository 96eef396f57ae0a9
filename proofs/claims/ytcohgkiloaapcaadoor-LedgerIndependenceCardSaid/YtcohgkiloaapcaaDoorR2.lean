/- A law for a region that draws its order, whose operations only add to memory, all but the last, which waits for all. No program stands in it. -/
import Derived.Test.YtcohgkiloaapcaaDoorR1
namespace Go.Proofs.YtcohgkiloaapcaaDoor
open Go.RowKit

/-- The closed facts. -/
def tailOk (ops : Array Oper) (L : List (Nat × List Nat × List (Nat × Nat))) : Bool :=
  (L.length + 1 == ops.size) &&
  (match ops[L.length]? with
    | some o => o.dst == none && (List.range L.length).all fun i => o.after.any fun e => Region.binds .any e && e.on == i
    | none => false) &&
  (List.range L.length).all fun i => match ops[i]?, L[i]? with
    | some o, some (d, _, E) => o.dst == some d && (E.all fun p => (o.after.any fun e => Region.binds .any e && e.on == p.1) && (match L[p.1]? with | some (dj, _, _) => dj == p.2 | none => false)) &&
      ((List.range L.length).all fun j => j == i || (match L[j]? with | some (dj, _, _) => dj != d | none => false))
    | _, _ => false

theorem InvAll.mk {P : Program} {ops : Array Oper} {Q : Exit → Act → World → Prop} {a : Act} {Inv : (Nat → Bool) → (Nat → Value) → World → Prop} :
    ∀ (os : List Oper) (L : List (List Nat)) (k : Nat), (∀ (i : Nat) (o : Oper) (D : List Nat), os[i]? = some o → L[i]? = some D → InvOp P ops Q a Inv (k + i) o D) → InvAll P ops Q a Inv k os L
  | [], _, _, _ => by unfold InvAll; trivial
  | _ :: _, [], _, _ => by unfold InvAll; trivial
  | o :: os, D :: L, k, h => ⟨h 0 o D rfl rfl, InvAll.mk os L (k + 1) fun i o' D' h1 h2 => by
      have := h (i + 1) o' D' (by simpa using h1) (by simpa using h2)
      rwa [show k + 1 + i = k + (i + 1) by omega]⟩

theorem wpList_last {P : Program} {ops : Array Oper} {Q : Exit → Act → World → Prop} {o : Oper} {a : Act} {w : World} {K : Act → World → Prop} (hd : o.dst = none) {t : TypeId} {x y : Operand} (hop : o.op = .store t x y) (h : wpList P ops Q [o] a w) (hK : ∀ W', Q .normal a W' → K a W') : wpList P ops (monoQ Q K) [o] a w := by
  have hput : ∀ v, a.put o.dst v = a := fun v => by rw [hd]; rfl
  simp only [wpList] at h ⊢
  by_cases hw : Region.wanted o (yielded ops a.tmps) = true
  · rw [if_pos hw] at h ⊢
    rcases h with h | ⟨h1, h2⟩
    · refine .inl ?_
      unfold Oper.wp execOp at h ⊢
      simp only [hop, Sem.run_bind] at h ⊢
      generalize (Instr.storeAt t (a.eval x) (a.eval y)).run P w = r at h ⊢
      cases r with
      | ok u w' =>
        simp only [Result.andThen, Sem.run_pure, Oper.upon, hput] at h ⊢
        exact hK _ h
      | halt x w' => cases x <;> exact h
    · exact .inr ⟨h1, h2⟩
  · rw [if_neg hw] at h ⊢
    simp only [hput] at h ⊢
    exact hK _ h

structure InvT (w0 : World) (L : List (Nat × List Nat × List (Nat × Nat))) (φ : Nat → Value → World → Prop) (Q : Exit → Act → World → Prop) (a : Act) (dn : Nat → Bool) (us : Nat → Value) (W : World) : Prop where
  bel : dn L.length = false → Below w0.heap.size w0 W
  fact : dn L.length = false → ∀ i d D E, L[i]? = some (d, D, E) → dn i = true → ∀ W', Below W.heap.size W W' → φ i (us d) W'
  cl : dn L.length = true → ∀ i, i < L.length → dn i = true
  fin : dn L.length = true → Q .normal ⟨fillT a.tmps (L.map (·.1)) us, a.defers⟩ W

theorem any_tail {P : Program} {ops : Array Oper} {Q : Exit → Act → World → Prop} {a : Act} {w : World}
    (L : List (Nat × List Nat × List (Nat × Nat))) (sz : Nat) (hsz : a.tmps.size = sz) (hok : tailOk ops L = true) (hinv : invOk ops (L.map (·.2.1) ++ [L.map (·.1)]) (L.map (·.1)) sz = true) (φ : Nat → Value → World → Prop)
    (hops : MonoAll P ops Q a w φ 0 (ops.toList.take L.length) L)
    (o : Oper) (ho : ops[L.length]? = some o) (st : TypeId) (sx sy : Operand) (hop : o.op = .store st sx sy)
    (hlast : ∀ (us : Nat → Value) (W : World), Below w.heap.size w W → AllF φ us W 0 L → wpList P ops Q [o] ⟨fillT a.tmps (L.map (·.1)) us, a.defers⟩ W) :
    wpAny P .any ops Q ops.size (Array.replicate ops.size false) a w := by
  unfold tailOk at hok
  rw [Bool.and_eq_true, Bool.and_eq_true] at hok
  obtain ⟨⟨hs0, hl0⟩, hi0⟩ := hok
  have hs : ops.size = L.length + 1 := by
    have h1 : L.length + 1 = ops.size := by simpa using hs0
    exact h1.symm
  rw [ho] at hl0
  simp only [Bool.and_eq_true] at hl0
  have hdst : o.dst = none := by simpa using hl0.1
  refine any_inv (L.map (·.2.1) ++ [L.map (·.1)]) (L.map (·.1)) sz hsz hinv (InvT w L φ Q a) ?_ ?_ ?_
  · exact ⟨fun _ => Below.refl _ _, fun _ i d D E _ h => (by cases h), fun h => (by cases h), fun h => (by cases h)⟩
  · refine InvAll.mk _ _ 0 fun i oi D hoi hDi => ?_
    rw [Nat.zero_add]
    intro dn us W hi haft hv K hK
    by_cases hiN : i < L.length
    · obtain ⟨⟨d, D', E⟩, hLi⟩ : ∃ x, L[i]? = some x := ⟨L[i], List.getElem?_eq_getElem hiN⟩
      have hDD : D = D' := by
        rw [List.getElem?_append_left (by simpa using hiN), List.getElem?_map, hLi] at hDi
        simpa using hDi.symm
      subst hDD
      have hN : dn L.length = false := by
        cases h : dn L.length with
        | false => rfl
        | true => rw [hv.cl h i hiN] at hi; cases hi
      have hoi' : ops[i]? = some oi := by simpa using hoi
      have hc := List.all_eq_true.1 hi0 i (List.mem_range.2 hiN)
      simp only [hoi', hLi, Bool.and_eq_true] at hc
      obtain ⟨⟨hd, hE⟩, hinj⟩ := hc
      have hd' : oi.dst = some d := by simpa using hd
      have hob := MonoAll.get (ops.toList.take L.length) L 0 hops i oi d D E (by rw [List.getElem?_take, if_pos hiN]; simpa using hoi) hLi
      rw [Nat.zero_add] at hob
      refine hob us W (hv.bel hN) (AllE.mk E fun p hp => ?_) K fun v W' hW hφ => hK v W' ?_
      · have h := List.all_eq_true.1 hE p hp
        rw [Bool.and_eq_true] at h
        obtain ⟨e, he, hb⟩ := Array.any_eq_true'.1 h.1
        simp only [Bool.and_eq_true, beq_iff_eq] at hb
        have hdn : dn p.1 = true := by rw [← hb.2]; exact haft e he hb.1
        cases hlj : L[p.1]? with
        | none => simp [hlj] at h
        | some y =>
          obtain ⟨dj, Dj, Ej⟩ := y
          have h2 := h.2
          simp only [hlj, beq_iff_eq] at h2
          subst h2
          exact hv.fact hN p.1 _ Dj Ej hlj hdn W (Below.refl _ _)
      · have hNi : ¬ L.length = i := by omega
        refine ⟨fun _ => (hv.bel hN).trans (hW.mono (hv.bel hN).size), fun _ j dj Dj Ej hLj hdj W'' hW'' => ?_, fun h => ?_, fun h => ?_⟩
        · by_cases hji : j = i
          · subst hji
            rw [hLi] at hLj
            obtain ⟨rfl, rfl, rfl⟩ : d = dj ∧ D = Dj ∧ E = Ej := by simpa using hLj
            simp only [hd', if_true]
            exact hφ W'' hW''
          · have hjl : j < L.length := (List.getElem?_eq_some_iff.1 hLj).1
            have h1 := List.all_eq_true.1 hinj j (List.mem_range.2 hjl)
            simp only [hLj, Bool.or_eq_true, beq_iff_eq, hji, false_or, bne_iff_ne, ne_eq] at h1
            have h2 : dn j = true := by simpa [hji] using hdj
            rw [if_neg (by rw [hd']; simpa using fun e => h1 e.symm)]
            exact hv.fact hN j dj Dj Ej hLj h2 W'' (hW.trans (hW''.mono hW.size))
        · simp only [hNi, if_false] at h
          rw [hN] at h; cases h
        · simp only [hNi, if_false] at h
          rw [hN] at h; cases h
    · have hil : i < ops.size := (List.getElem?_eq_some_iff.1 hoi).1 |> fun h => by simpa using h
      obtain rfl : i = L.length := by omega
      have hoo : oi = o := by
        have : ops[L.length]? = some oi := by simpa using hoi
        rw [ho] at this
        exact (Option.some.inj this).symm
      subst hoo
      have hDD : D = L.map (·.1) := by
        rw [List.getElem?_append_right (by simp)] at hDi
        simpa using hDi.symm
      subst hDD
      have hdone : ∀ j, j < L.length → dn j = true := fun j hj => by
        have h := List.all_eq_true.1 hl0.2 j (List.mem_range.2 hj)
        obtain ⟨e, he, hb⟩ := Array.any_eq_true'.1 h
        simp only [Bool.and_eq_true, beq_iff_eq] at hb
        rw [← hb.2]
        exact haft e he hb.1
      have hB := hv.bel hi
      have hAll : AllF φ us W 0 L := AllF.mk L 0 fun p hp => by
        obtain ⟨⟨d, D, E⟩, j⟩ := p
        have hm := List.mem_zipIdx hp
        have hj : j < L.length := by omega
        have hjL : L[j]? = some (d, D, E) := by
          rw [List.getElem?_eq_getElem hj]
          have := hm.2.2
          simp at this
          rw [← this]
        exact hv.fact hi j d D E hjL (hdone j hj) W (Below.refl _ _)
      refine wpList_last hdst hop (hlast us W hB hAll) fun W' hQ => ?_
      have h := hK undef W' ⟨fun h => ?_, fun h => ?_, fun _ j hj => ?_, fun _ => ?_⟩
      · rw [hdst] at h
        exact h
      · simp at h
      · simp at h
      · rw [if_neg (by omega)]
        exact hdone j hj
      · rw [hdst]
        simpa using hQ
  · intro dn us W hdn hv
    exact hv.fin (hdn _ (by omega))
end Go.Proofs.YtcohgkiloaapcaaDoor

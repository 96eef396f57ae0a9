/- A law of my own: a range over a function whose iterator promises something of each element in the world of the call. The steps are those of the library's law for a boxed loop variable, with one promise more. -/
import Derived.RangeFuncNested
import Derived.RangeFuncBound
import Derived.RangeFuncCalls
import Derived.RangeFuncLeaves
namespace Go.Proofs.YtcohgkiloaapcaaDoor
open Go.RowKit

variable {F : Fence} {n : Nat} {P : Program}

/-- The iterator's contract, with V: what it promises of an element in the world in which it hands it on. -/
def SeqV {α : Type} (F : Fence) (n : Nat) (P : Program) (g : Nat) (lb : Array Value) (encs : α → Array Value) (V : α → World → Prop) (Kp : World → World → Prop) (S Sp : List α → Prop) (N : Nat) (w : World) : Prop :=
  ∀ (l : Nat) (J Jx : List α → World → Prop) (W : World), Below w.heap.size w W → AbidesFrom W.heap.size J → AbidesFrom W.heap.size Jx →
    (∀ pre x W1, J pre W1 → V x W1 → pre.length < N → YieldAt F (n - 1) P l (encs x) W1 fun e W' =>
      (e = .returned (.bool true) ∧ J (pre ++ [x]) W' ∧ Kp W1 W') ∨ (e = .returned (.bool false) ∧ Jx (pre ++ [x]) W')) →
    J [] W →
    CallsIn F n P g (#[.func (.yield l) #[] #[]] ++ lb) W fun e W' => (∃ v, e = .returned v) ∧ ((∃ xs, S xs ∧ J xs W') ∨ (∃ pre, Sp pre ∧ Jx pre W'))

theorem rangeFuncV {α : Type} {g : Operand} {ps : Array Tmp} {assign body : Code} {Q : Exit → Act → World → Prop} {a : Act} {w : World}
    (hro : F.round = none) (h1 : 1 ≤ n) {gf : Nat} {lb : Array Value} (hg : a.eval g = .func (.func gf) #[] lb) (hFg : F.fn gf) (eg : ∀ args w, (callFunc gf args).run P w = .ok (.enter gf args) w)
    {encs : α → Array Value} {V : α → World → Prop} {Kp : World → World → Prop} {S Sp : List α → Prop} {N : Nat} {w0 : World} (hseq : SeqV F (n - 1) P gf lb encs V Kp S Sp N w0)
    (hKt : ∀ {A B C : World}, Kp A B → Kp B C → Kp A C) (hKb : ∀ (W : World) (l : Nat) (o o' : Obj), w.heap.size ≤ l → W.heap[l]? = some o → o.isCells = false → o.isWalk = false → Kp W (W.putObj l o')) (hb0 : Below w0.heap.size w0 w) (hps : ∀ x, (encs x).size = ps.size)
    (I : List α → World → Prop) (Ix : Code → List α → World → Prop) (hI : OwnFrom w.heap.size I) (hIx : ∀ c, OwnFrom w.heap.size (Ix c)) (h0 : I [] w) (Ax : α → Act → World → Prop) (hAx : ∀ x a', OwnFrom w.heap.size (fun (_ : Unit) W => Ax x a' W))
    (hassign : ∀ (l : Nat) (pre : List α) (x : α) (W : World) (K : Act → World → Prop), I pre W → V x W → (∀ a' W', KeepsFrom w.heap.size W W' → Kp W W' → I pre W' → Ax x a' W' → K a' W') →
      assign.wpIn (F.inRound l) (n - 1 - 1) P (Exit.then K (fun _ _ _ => False)) { tmps := (ps.zip (encs x)).foldl (fun t (p, v) => t.setIfInBounds p v) a.tmps, defers := [] } W)
    (hbody : ∀ (l : Nat) (pre : List α) (x : α) (a' : Act) (W : World), w.heap.size ≤ l → (∃ r, W.heap[l]? = some (.loop r)) → I pre W → Ax x a' W → pre.length < N → body.wpIn (F.inRound l) (n - 1 - 1) P (ownPostG w.heap.size Kp I Ix (pre ++ [x]) W) a' W)
    (hdone : ∀ (D : Nat) (xs : List α) (W : World), w.heap.size ≤ D → S xs → I xs W → W.heap[D]? = some (.deferred (some [])) → Q .normal { a with defers := { target := .collected D, args := #[] } :: a.defers } W)
    (hstop : ∀ (D : Nat) (c : Code) (pre : List α) (W : World), w.heap.size ≤ D → Sp pre → Ix c pre W → W.heap[D]? = some (.deferred (some [])) → c.wpIn F n P Q { a with defers := { target := .collected D, args := #[] } :: a.defers } W) :
    (Code.rangeFunc g ps assign body).wpIn F n P Q a w := by
  refine wpIn_rangeFunc fun fn hfn => ?_
  rw [hro]
  generalize hr0 : (fun st pe => ({ state := st, pending := pe, fn, tmps := a.tmps, params := ps, assign, body, defers := w.heap.size } : Loop)) = rc
  have hrc : ∀ st pe, rc st pe = { state := st, pending := pe, fn, tmps := a.tmps, params := ps, assign, body, defers := w.heap.size } := fun st pe => by rw [← hr0]
  generalize hL : w.heap.size + 1 = L
  generalize hW1 : (w.alloc (.deferred (some []))).alloc (.loop (rc .ready none)) = W1
  have hs1 : W1.heap.size = L + 1 := by rw [← hW1, ← hL]; simp
  have hL1 : W1.heap[L]? = some (.loop (rc .ready none)) := by
    have := World.alloc_heap_new (w.alloc (.deferred (some []))) (.loop (rc .ready none))
    rw [World.size_alloc, hW1, hL] at this
    exact this
  have hK1 : W1.heap[w.heap.size]? = some (.deferred (some [])) := by rw [← hW1]; exact (Below.heap_alloc _ _ _ (by simp)).trans (World.alloc_heap_new w _)
  have hI1 : I [] W1 := by rw [← hW1]; exact hI.alloc _ (hI.alloc _ h0)
  have hb1 : Below w0.heap.size w0 W1 := by rw [← hW1]; exact hb0.trans ((((Below.refl _ w).alloc (Nat.le_refl _) _).alloc (by simp) _).mono hb0.size)
  refine ⟨L, [{ target := .collected w.heap.size, args := #[] }], W1, { target := .fn (.func gf) lb, args := #[.func (.yield L) #[] #[]] }, W1, gf, #[.func (.yield L) #[] #[]] ++ lb, W1, ?_, ?_, ?_, ?_, fun _ => h1, ?_⟩
  · rw [← hW1, ← hL, hrc]; exact run_enterLoop_outer _ _ _ _ _
  · simp only [resolve, hg]
    simp [go_sem]
  · intro f' hf'; simp [Target.leads] at hf'; subst hf'; exact hFg
  · simp [invoke, go_sem, eg]
  have hnw : ∀ {A : World} {row : Option Nat}, (∀ r, row = some r → W1.heap.size ≤ r ∧ ∃ o : Obj, A.heap[r]? = some o ∧ o.isWalk = true) → (∀ r, row = some r → w.heap.size ≤ r ∧ ∃ o : Obj, A.heap[r]? = some o ∧ o.isCells = false) :=
    fun hr r e => by obtain ⟨hB, o, ho, hw⟩ := hr r e; exact ⟨by omega, o, ho, Obj.not_cells_of_walk hw⟩
  have two : ∀ {A B : World} {row : Option Nat} {o : Obj} {k : Nat}, A.grownBy B row → (∀ r, row = some r → W1.heap.size ≤ r ∧ ∃ o : Obj, A.heap[r]? = some o ∧ o.isWalk = true) → k < W1.heap.size → A.heap[k]? = some o → B.heap[k]? = some o :=
    fun hg' hr hk ho => (hg'.block _ (Array.getElem?_eq_some_iff.1 ho).1 (fun e => by have := (hr _ e.symm).1; omega)).trans ho
  refine (hseq L (fun pre W => I pre W ∧ W.heap[L]? = some (.loop (rc .ready none)) ∧ W.heap[w.heap.size]? = some (.deferred (some [])))
    (fun pre W => ∃ c, Ix c pre W ∧ W.heap[L]? = some (.loop (rc .done (some c))) ∧ W.heap[w.heap.size]? = some (.deferred (some []))) W1 hb1
    (fun s A B row hs hg' hr => ⟨hI s A B row hs.1 hg' (hnw hr), two hg' hr (by omega) hs.2.1, two hg' hr (by omega) hs.2.2⟩)
    (fun s A B row hs hg' hr => by obtain ⟨c, hc, hl, hk⟩ := hs; exact ⟨c, hIx c s A B row hc hg' (hnw hr), two hg' hr (by omega) hl, two hg' hr (by omega) hk⟩)
    ?_ ⟨hI1, hL1, hK1⟩).mono ?_
  · rintro pre x W ⟨hi, hl, hk⟩ hv hlen
    have hy := run_yield (P := P) (args := encs x) hl (by rw [hrc]; exact hps x)
    rw [hrc] at hy
    refine ⟨fn, _, assign, body, hy, roundIn_of_wpIn hfn (hassign _ pre x W _ hi hv ?_)⟩
    clear hy
    intro a' W2 hkf hkp hi2 hax
    have hl2 := hkf.same _ _ (by omega) hl rfl
    have hk2 := hkf.same _ _ (Nat.le_refl _) hk rfl
    have hlt : L < W2.heap.size := (Array.getElem?_eq_some_iff.1 hl2).1
    refine ⟨_, run_beginRound hl2 (by rw [hrc]), ?_⟩
    have hl3 : (W2.putObj L (.loop { rc .ready none with state := .busy })).heap[L]? = some (.loop { rc .ready none with state := .busy }) := World.putObj_heap_same hlt
    have hk3 : (W2.putObj L (.loop { rc .ready none with state := .busy })).heap[w.heap.size]? = some (.deferred (some [])) := (World.putObj_heap_other (by omega)).trans hk2
    have hw2 : Kp W2 (W2.putObj L (.loop { rc .ready none with state := .busy })) := hKb _ _ _ _ (by omega) hl2 rfl rfl
    refine wpIn_mono (hbody _ pre x a' _ (by omega) ⟨_, hl3⟩ (hI.putObj _ hi2 (by omega) hl2 rfl) ((hAx x a').putObj (s := ()) _ hax (by omega) hl2 rfl) hlen) ?_
    have fin : ∀ (jump : Option Code) (W3 : World), KeepsFrom w.heap.size (W2.putObj L (.loop { rc .ready none with state := .busy })) W3 →
        (Instr.endRound L jump).run P W3 = .ok (.bool jump.isNone) (W3.putObj L (.loop (rc (if jump.isNone then .ready else .done) jump))) ∧
        W3.heap[L]? = some (.loop { rc .ready none with state := .busy }) ∧
        (W3.putObj L (.loop (rc (if jump.isNone then .ready else .done) jump))).heap[L]? = some (.loop (rc (if jump.isNone then .ready else .done) jump)) ∧
        (W3.putObj L (.loop (rc (if jump.isNone then .ready else .done) jump))).heap[w.heap.size]? = some (.deferred (some [])) := fun jump W3 hk => by
      have hl4 := hk.same _ _ (by omega) hl3 rfl
      have := run_endRound (P := P) jump hl4
      rw [hrc] at this ⊢
      rw [hrc]
      exact ⟨this, by rw [hrc] at hl4; exact hl4, World.putObj_heap_same (Array.getElem?_eq_some_iff.1 hl4).1, (World.putObj_heap_other (by omega)).trans (hk.same _ _ (Nat.le_refl _) hk3 rfl)⟩
    rintro e a3 W3 hp
    cases e with
    | normal =>
      obtain ⟨q1, q2, q3⟩ := hp
      obtain ⟨hr, r3, r4, r5⟩ := fin none W3 q1
      exact ⟨_, _, hr, .inl ⟨rfl, ⟨hI.putObj _ q3 (by omega) r3 rfl, r4, r5⟩, hKt hkp (hKt (hKt hw2 q2) (hKb _ _ _ _ (by omega) r3 rfl rfl))⟩⟩
    | ret =>
      obtain ⟨q1, q3⟩ := hp
      obtain ⟨hr, r3, r4, r5⟩ := fin (some .ret) W3 q1
      exact ⟨_, _, hr, .inr ⟨rfl, .ret, (hIx _).putObj _ q3 (by omega) r3 rfl, r4, r5⟩⟩
    | exit id =>
      obtain ⟨q1, q3⟩ := hp
      obtain ⟨hr, r3, r4, r5⟩ := fin (some (.exit id)) W3 q1
      exact ⟨_, _, hr, .inr ⟨rfl, .exit id, (hIx _).putObj _ q3 (by omega) r3 rfl, r4, r5⟩⟩
    | goto t =>
      obtain ⟨q1, q3⟩ := hp
      obtain ⟨hr, r3, r4, r5⟩ := fin (some (.goto t)) W3 q1
      exact ⟨_, _, hr, .inr ⟨rfl, .goto t, (hIx _).putObj _ q3 (by omega) r3 rfl, r4, r5⟩⟩
    | panic ch => exact hp.elim
    | outgrown => exact hp.elim
  · rintro e W2 ⟨⟨v, rfl⟩, (⟨xs, hS, hi, hl, hk⟩ | ⟨pre, hSp, c, hi, hl, hk⟩)⟩
    · exact ⟨none, _, by have := run_endLoop (P := P) hl (by rw [hrc]; simp); rw [hrc] at this; exact this, hdone _ xs _ (Nat.le_refl _) hS (hI.putObj _ hi (by omega) hl rfl) ((World.putObj_heap_other (by omega)).trans hk)⟩
    · exact ⟨some c, _, by have := run_endLoop (P := P) hl (by rw [hrc]; simp); rw [hrc] at this; exact this, hstop _ c pre _ (Nat.le_refl _) hSp ((hIx c).putObj _ hi (by omega) hl rfl) ((World.putObj_heap_other (by omega)).trans hk)⟩
end Go.Proofs.YtcohgkiloaapcaaDoor

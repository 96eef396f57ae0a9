/- Small laws for the operations of a region that draws its order, over a frame that is a letter: each operation's run out of what its operands hold. No program stands in it. -/
import Derived.Test.YtcohgkiloaapcaaDoorR0
namespace Go.Proofs.YtcohgkiloaapcaaDoor
open Go.RowKit

theorem AllF.get {φ : Nat → Value → World → Prop} {us : Nat → Value} {W : World} : ∀ {L : List (Nat × List Nat × List (Nat × Nat))} {k : Nat}, AllF φ us W k L → ∀ (i : Nat) {x : Nat × List Nat × List (Nat × Nat)}, L[i]? = some x → φ (k + i) (us x.1) W
  | [], _, _, _, _, h => by simp at h
  | y :: ys, k, h, i, x, hx => by
    cases i with
    | zero =>
      simp only [List.getElem?_cons_zero, Option.some.injEq] at hx
      subst hx
      exact h.1
    | succ i =>
      have := AllF.get h.2 i (by simpa using hx)
      rwa [show k + 1 + i = k + (i + 1) by omega] at this

/-- The frame of an operation's obligation. -/
abbrev Frm (a : Act) (D : List Nat) (us : Nat → Value) : Act := ⟨fillT a.tmps D us, a.defers⟩

theorem getD_of_get? (t : Array Value) (k : Nat) (v : Value) (h : t[k]? = some v) : t.getD k undef = v := by
  rw [Array.getD_eq_getD_getElem?, h]; rfl
theorem fillT_sz (us : Nat → Value) : ∀ (ds : List Nat) (t : Array Value), (fillT t ds us).size = t.size
  | [], t => rfl
  | x :: ds, t => by rw [fillT, fillT_sz us ds, Array.size_setIfInBounds]
theorem ev_us {a : Act} {D : List Nat} {us : Nat → Value} {k N : Nat} {v : Value} (hsz : a.tmps.size = N) (hk : (D.contains k && decide (k < N)) = true) (h : us k = v) : (Frm a D us).eval (.tmp k) = v := by
  rw [Bool.and_eq_true] at hk
  have h1 : k ∈ D := by simpa using hk.1
  have h2 : k < a.tmps.size := by rw [hsz]; simpa using hk.2
  show (fillT a.tmps D us).getD k undef = v
  refine getD_of_get? _ _ _ ?_
  rw [fillT_get, if_pos ⟨h1, h2⟩, h]
theorem fill_at {t : Array Value} {D : List Nat} {us : Nat → Value} {k N : Nat} {v : Value} (hsz : t.size = N) (hk : (D.contains k && decide (k < N)) = true) (h : us k = v) : (fillT t D us).getD k undef = v := by
  rw [Bool.and_eq_true] at hk
  have h1 : k ∈ D := by simpa using hk.1
  have h2 : k < t.size := by rw [hsz]; simpa using hk.2
  refine getD_of_get? _ _ _ ?_
  rw [fillT_get, if_pos ⟨h1, h2⟩, h]
theorem ev_old {a : Act} {D : List Nat} {us : Nat → Value} {k : Nat} {v : Value} (hk : D.contains k = false) (h : a.tmps.getD k undef = v) : (Frm a D us).eval (.tmp k) = v := by
  have h1 : k ∉ D := by simpa using hk
  show (fillT a.tmps D us).getD k undef = v
  rw [Array.getD_eq_getD_getElem?, fillT_get, if_neg (fun h => h1 h.1), ← Array.getD_eq_getD_getElem?, h]
theorem wt_none {ops : Array Oper} {o : Oper} {t : Array Value} (h : o.guard = none) : Region.wanted o (yielded ops t) = true := by simp [Region.wanted, h]
theorem wt_us {ops : Array Oper} {o : Oper} {a : Act} {D : List Nat} {us : Nat → Value} {g d N : Nat} {b : Bool} (h : o.guard = some (g, b)) (ho : (ops[g]?).bind (·.dst) = some d) (hsz : a.tmps.size = N) (hk : (D.contains d && decide (d < N)) = true) (hu : us d = .bool b) :
    Region.wanted o (yielded ops (fillT a.tmps D us)) = true := by
  rw [Bool.and_eq_true] at hk
  have h1 : d ∈ D := by simpa using hk.1
  have h2 : d < a.tmps.size := by rw [hsz]; simpa using hk.2
  have hy : yielded ops (fillT a.tmps D us) g = some b := by
    unfold yielded
    rw [ho]
    simp only [Option.bind_some]
    rw [fillT_get, if_pos ⟨h1, h2⟩, hu]
  simp only [Region.wanted, h, hy]
  simp
theorem wt_skip {ops : Array Oper} {o : Oper} {a : Act} {D : List Nat} {us : Nat → Value} {g d N : Nat} {b b' : Bool} (h : o.guard = some (g, b)) (ho : (ops[g]?).bind (·.dst) = some d) (hsz : a.tmps.size = N) (hk : (D.contains d && decide (d < N)) = true) (hu : us d = .bool b') (hb : (b' == b) = false) :
    Region.wanted o (yielded ops (fillT a.tmps D us)) = false := by
  rw [Bool.and_eq_true] at hk
  have h1 : d ∈ D := by simpa using hk.1
  have h2 : d < a.tmps.size := by rw [hsz]; simpa using hk.2
  have hy : yielded ops (fillT a.tmps D us) g = some b' := by
    unfold yielded
    rw [ho]
    simp only [Option.bind_some]
    rw [fillT_get, if_pos ⟨h1, h2⟩, hu]
  simp only [Region.wanted, h, hy]
  cases b <;> cases b' <;> simp_all

section
variable {P : Program} {ops : Array Oper} {Q : Exit → Act → World → Prop} {K : Act → World → Prop} {o : Oper} {b : Act} {W W' : World} {v : Value}

theorem stepV (hw : Region.wanted o (yielded ops b.tmps) = true) (hr : (execOp b.eval o).run P W = .ok (.value v) W') (hk : K (b.put o.dst v) W') : wpList P ops (monoQ Q K) [o] b W := by
  unfold wpList
  rw [if_pos hw]
  refine .inl ?_
  unfold Oper.wp
  rw [hr]
  exact hk
/-- A store. -/
theorem stepS (hw : Region.wanted o (yielded ops b.tmps) = true) (hr : (execOp b.eval o).run P W = .ok .skip W') (hk : K (b.put o.dst undef) W') : wpList P ops (monoQ Q K) [o] b W := by
  unfold wpList
  rw [if_pos hw]
  refine .inl ?_
  unfold Oper.wp
  rw [hr]
  exact hk
theorem stepN (hw : Region.wanted o (yielded ops b.tmps) = false) (hk : K (b.put o.dst undef) W) : wpList P ops (monoQ Q K) [o] b W := by
  unfold wpList
  rw [if_neg (by rw [hw]; decide)]
  exact hk
theorem stepC {f : FuncId} {args : Array Value} (hw : Region.wanted o (yielded ops b.tmps) = true) (hr : (execOp b.eval o).run P W = .ok (.enter f args) W') (hc : Calls P f args W' fun e w' => ∃ v, e = .returned v ∧ K (b.put o.dst v) w') : wpList P ops (monoQ Q K) [o] b W := by
  unfold wpList
  rw [if_pos hw]
  refine .inl ?_
  unfold Oper.wp
  rw [hr]
  exact hc.mono fun e w' ⟨v, he, hk⟩ => by subst he; exact hk

/-- The same, over the frame of an obligation: without a guard, with one. -/
theorem stepV0 {a : Act} {D : List Nat} {us : Nat → Value} (v : Value) (W' : World) (hw : o.guard = none) (hr : (execOp (Frm a D us).eval o).run P W = .ok (.value v) W') (hk : K ((⟨fillT a.tmps D us, a.defers⟩ : Act).put o.dst v) W') : wpList P ops (monoQ Q K) [o] ⟨fillT a.tmps D us, a.defers⟩ W :=
  stepV (wt_none hw) hr hk
theorem stepV1 {a : Act} {D : List Nat} {us : Nat → Value} {N : Nat} (v : Value) (W' : World) (g d : Nat) (b : Bool) (hsz : a.tmps.size = N) (hu : us d = .bool b) (hw : o.guard = some (g, b)) (ho : (ops[g]?).bind (·.dst) = some d) (hd : (D.contains d && decide (d < N)) = true) (hr : (execOp (Frm a D us).eval o).run P W = .ok (.value v) W') (hk : K ((⟨fillT a.tmps D us, a.defers⟩ : Act).put o.dst v) W') : wpList P ops (monoQ Q K) [o] ⟨fillT a.tmps D us, a.defers⟩ W :=
  stepV (wt_us hw ho hsz hd hu) hr hk
theorem stepC0 {a : Act} {D : List Nat} {us : Nat → Value} (f : FuncId) (args : Array Value) (hw : o.guard = none) (hr : (execOp (Frm a D us).eval o).run P W = .ok (.enter f args) W) (hc : Calls P f args W fun e w' => ∃ v, e = .returned v ∧ K ((⟨fillT a.tmps D us, a.defers⟩ : Act).put o.dst v) w') : wpList P ops (monoQ Q K) [o] ⟨fillT a.tmps D us, a.defers⟩ W :=
  stepC (wt_none hw) hr hc
theorem stepC1 {a : Act} {D : List Nat} {us : Nat → Value} {N : Nat} (f : FuncId) (args : Array Value) (g d : Nat) (b : Bool) (hsz : a.tmps.size = N) (hu : us d = .bool b) (hw : o.guard = some (g, b)) (ho : (ops[g]?).bind (·.dst) = some d) (hd : (D.contains d && decide (d < N)) = true) (hr : (execOp (Frm a D us).eval o).run P W = .ok (.enter f args) W) (hc : Calls P f args W fun e w' => ∃ v, e = .returned v ∧ K ((⟨fillT a.tmps D us, a.defers⟩ : Act).put o.dst v) w') : wpList P ops (monoQ Q K) [o] ⟨fillT a.tmps D us, a.defers⟩ W :=
  stepC (wt_us hw ho hsz hd hu) hr hc
theorem stepN1 {a : Act} {D : List Nat} {us : Nat → Value} {N : Nat} (g d : Nat) (b b' : Bool) (hb : (b' == b) = false) (hsz : a.tmps.size = N) (hu : us d = .bool b') (hw : o.guard = some (g, b)) (ho : (ops[g]?).bind (·.dst) = some d) (hd : (D.contains d && decide (d < N)) = true) (hk : K ((⟨fillT a.tmps D us, a.defers⟩ : Act).put o.dst undef) W) : wpList P ops (monoQ Q K) [o] ⟨fillT a.tmps D us, a.defers⟩ W :=
  stepN (wt_skip hw ho hsz hd hu hb) hk

variable {ρ : Operand → Value}
theorem ex_move {x : Operand} (ho : o.op = .move x) (h : ρ x = v) : (execOp ρ o).run P W = .ok (.value v) W := by unfold execOp; simp only [ho, h]; rfl
theorem ex_assign {x : Operand} (ho : o.op = .assign x) (h : ρ x = v) : (execOp ρ o).run P W = .ok (.value v) W := by unfold execOp; simp only [ho, h]; rfl
theorem ex_pick_t {c x y : Operand} (ho : o.op = .pick c x y) (hc : ρ c = .bool true) (h : ρ x = v) : (execOp ρ o).run P W = .ok (.value v) W := by unfold execOp; simp only [ho, hc, h]; rfl
theorem ex_pick_f {c x y : Operand} (ho : o.op = .pick c x y) (hc : ρ c = .bool false) (h : ρ y = v) : (execOp ρ o).run P W = .ok (.value v) W := by unfold execOp; simp only [ho, hc, h]; rfl
theorem ex_not {t : TypeId} {x : Operand} {b : Bool} (ho : o.op = .unOp .not t x) (h : ρ x = .bool b) : (execOp ρ o).run P W = .ok (.value (.bool (!b))) W := by unfold execOp; simp only [ho, h]; rfl
theorem ex_len {x : Operand} {t e : TypeId} {A : Option Addr} {n c : Nat} (ho : o.op = .call { callee := .builtin .len, args := #[x], argTypes := #[t] }) (hu : P.underlying t = some (.slice e)) (h : ρ x = .slice A n c) : (execOp ρ o).run P W = .ok (.value (.int .i64 (n : Nat))) W := by
  unfold execOp
  simp only [ho, resolve, invoke, builtin, Sem.run_bind, Sem.run_pure, Result.andThen_ok, List.map_toArray, List.map_cons, List.map_nil, h]
  simp [Builtin.len_, run_underlying hu, Sem.run_bind, Result.andThen, goInt]
/-- A comparison of numbers, and whatever else needs no memory. -/
theorem ex_bin {op : BinOp} {xt yt : TypeId} {x y : Operand} {vx vy : Value} (ho : o.op = .binOp op xt x y yt) (hx : ρ x = vx) (hy : ρ y = vy) (hg : (eqGuard op xt x y vx vy).run P W = .ok () W) (hr : (binOp op xt vx vy).run P W = .ok v W) : (execOp ρ o).run P W = .ok (.value v) W := by
  unfold execOp; simp only [ho, hx, hy, Sem.run_bind, hg, hr, Result.andThen_ok, Sem.run_pure]
theorem guard_int {op : BinOp} {xt : TypeId} {x y : Operand} {k k' : IntKind} {a b : Int} : (eqGuard op xt x y (.int k a) (.int k' b)).run P W = .ok () W := by
  unfold eqGuard; cases op <;> rfl
theorem ex_cmp {op : BinOp} {xt yt : TypeId} {x y : Operand} {k : IntKind} {a b : Int} {r : Bool} (ho : o.op = .binOp op xt x y yt) (hx : ρ x = .int k a) (hy : ρ y = .int k b) (hr : (binOp op xt (.int k a) (.int k b)).run P W = .ok (.bool r) W) : (execOp ρ o).run P W = .ok (.value (.bool r)) W :=
  ex_bin ho hx hy guard_int hr
theorem eql_int {xt : TypeId} {k : IntKind} {a b : Int} {r : Bool} (h : (a == b) = r) : (binOp .eql xt (.int k a) (.int k b)).run P W = .ok (.bool r) W := by
  subst h; simp [binOp, Op.intCmp, go_sem]
theorem neq_int {xt : TypeId} {k : IntKind} {a b : Int} {r : Bool} (h : (a != b) = r) : (binOp .neq xt (.int k a) (.int k b)).run P W = .ok (.bool r) W := by
  subst h; simp [binOp, Op.intCmp, go_sem]
theorem ex_load {t : TypeId} {x : Operand} {vx : Value} (ho : o.op = .load t x) (hx : ρ x = vx) (hr : (Instr.loadAt t vx).run P W = .ok v W') : (execOp ρ o).run P W = .ok (.value v) W' := by
  unfold execOp; simp only [ho, hx, Sem.run_bind, hr, Result.andThen_ok, Sem.run_pure]
theorem ex_index {t : TypeId} {x y : Operand} {vx vy : Value} (ho : o.op = .indexAddr t x y) (hx : ρ x = vx) (hy : ρ y = vy) (hr : (Instr.indexAt t vx vy).run P W = .ok v W') : (execOp ρ o).run P W = .ok (.value v) W' := by
  unfold execOp; simp only [ho, hx, hy, Sem.run_bind, hr, Result.andThen_ok, Sem.run_pure]
theorem ex_sliceH {t : TypeId} {x y : Operand} {vx vy : Value} (ho : o.op = .slice t x none (some y) none) (hx : ρ x = vx) (hy : ρ y = vy) (hr : (Instr.sliceAt t vx none (some vy) none).run P W = .ok v W') : (execOp ρ o).run P W = .ok (.value v) W' := by
  unfold execOp; simp only [ho, Option.map_some, Option.map_none, hx, hy, Sem.run_bind, hr, Result.andThen_ok, Sem.run_pure]
theorem ex_buildSlice {t : TypeId} {n : Nat} {parts : Array (Nat × Operand)} {vs : Array (Nat × Value)} (ho : o.op = .buildSlice t n parts) (hx : parts.map (fun (i, x) => (i, ρ x)) = vs) (hr : (Instr.buildSlice t n vs).run P W = .ok v W') : (execOp ρ o).run P W = .ok (.value v) W' := by
  unfold execOp; simp only [ho, hx, Sem.run_bind, hr, Result.andThen_ok, Sem.run_pure]
theorem ex_append {x y : Operand} {ts : Array TypeId} {vx vy : Value} (ho : o.op = .call { callee := .builtin .append, args := #[x, y], argTypes := ts }) (hx : ρ x = vx) (hy : ρ y = vy) (hr : (Builtin.append_ ts o.type #[vx, vy]).run P W = .ok v W') : (execOp ρ o).run P W = .ok (.value v) W' := by
  unfold execOp; simp only [ho, resolve, invoke, builtin, Sem.run_bind, Sem.run_pure, Result.andThen_ok, List.map_toArray, List.map_cons, List.map_nil, hx, hy, hr]
theorem ex_fn1 {f : FuncId} {x : Operand} {t : Array TypeId} {vx : Value} (ho : o.op = .call { callee := .value (.func f), args := #[x], argTypes := t }) (hf : ρ (.func f) = .func (.func f) #[] #[]) (hx : ρ x = vx) (hr : (callFunc f #[vx]).run P W = .ok (.enter f #[vx]) W) : (execOp ρ o).run P W = .ok (.enter f #[vx]) W := by
  unfold execOp; simp only [ho]; simp [resolve, invoke, Deferred.ofValue, hf, hx, hr, Sem.run_bind, go_sem]
theorem ex_fn2 {f : FuncId} {x y : Operand} {t : Array TypeId} {vx vy : Value} (ho : o.op = .call { callee := .value (.func f), args := #[x, y], argTypes := t }) (hf : ρ (.func f) = .func (.func f) #[] #[]) (hx : ρ x = vx) (hy : ρ y = vy) (hr : (callFunc f #[vx, vy]).run P W = .ok (.enter f #[vx, vy]) W) : (execOp ρ o).run P W = .ok (.enter f #[vx, vy]) W := by
  unfold execOp; simp only [ho]; simp [resolve, invoke, Deferred.ofValue, hf, hx, hy, hr, Sem.run_bind, go_sem]
end
end Go.Proofs.YtcohgkiloaapcaaDoor

/- Contracts: ledger.Scan. -/
import Derived.Test.YtcohgkiloaapcaaDoorR1
import Derived.Test.YtcohgkiloaapcaaDoorE2
namespace Go.Proofs.YtcohgkiloaapcaaDoor
open Go.RowKit Go.Shelf

attribute [local go_sem] Oper.semAt_some

/-- The cells of the entries. -/
def rowsOf (ys : List Rec) : List Value := ys.flatMap fun x => [.int .i64 x.E.kind, .string (strOf x.E.key), .slice x.A x.m x.c]
def lastOff (ys : List Rec) : Nat := (ys.getLast?.map Rec.off).getD 0
theorem recs_err : ∀ (k off : Nat) (l : List UInt8) (pre : List (En × Nat × Option Nat)) (e : En) (p cd : Nat) (t : List (En × Nat × Option Nat)), recs k off l = pre ++ (e, p, some cd) :: t → e = En.zero ∧ t = []
  | 0, off, l, pre, e, p, cd, t, h => by simp [recs] at h
  | k + 1, off, l, pre, e, p, cd, t, h => by
    rw [recs] at h
    split at h
    · simp at h
    · cases hf : fDec l with
      | error c =>
        rw [hf] at h
        dsimp only at h
        cases pre with
        | nil => simp at h; exact ⟨h.1.1.symm, h.2⟩
        | cons y ys => simp at h
      | ok x =>
        obtain ⟨E, m⟩ := x
        rw [hf] at h
        dsimp only at h
        cases pre with
        | nil => simp at h
        | cons y ys =>
          rw [List.cons_append] at h
          exact recs_err k _ _ ys e p cd t (List.cons.inj h).2
theorem recs_len : ∀ (k off : Nat) (l : List UInt8), (recs k off l).length ≤ k
  | 0, off, l => by simp [recs]
  | k + 1, off, l => by
    rw [recs]
    split
    · simp
    · cases hf : fDec l with
      | error c => simp
      | ok x => have := recs_len k (off + x.2) (l.drop x.2); simp; omega
/-- An entries' row. -/
def RowE (s : Nat) (ys : List Rec) (v : Value) (W : World) : Prop := W.ownsRow s 25 3 v ys.length (rowsOf ys)
def GoodE (ys : List Rec) (W : World) : Prop := ∀ x, x ∈ ys → x.err = none ∧ Bo W x.A x.m x.c x.E.body

theorem al_at {w : World} {i : Nat} {o x : Obj} (h : w.heap[i]? = some x) : (w.alloc o).heap[i]? = some x := ((below_al w o).block i (Array.getElem?_eq_some_iff.1 h).1).trans h
theorem al_last (w : World) (o : Obj) {k : Nat} (hk : w.heap.size = k) : (w.alloc o).heap[k]? = some o := by rw [← hk]; exact heap_alloc_new w o
theorem al_size (w : World) (o : Obj) {k : Nat} (hk : w.heap.size = k) : (w.alloc o).heap.size = k + 1 := by simp [hk]

theorem six_al (w : World) (o0 o1 o2 o3 o4 o5 : Obj) {s : Nat} (hs : w.heap.size = s) : ∃ W, W = (((((w.alloc o0).alloc o1).alloc o2).alloc o3).alloc o4).alloc o5 ∧ Below s w W ∧ W.heap.size = s + 6 ∧
    W.heap[s]? = some o0 ∧ W.heap[s + 1]? = some o1 ∧ W.heap[s + 1 + 1]? = some o2 ∧ W.heap[s + 1 + 1 + 1]? = some o3 ∧ W.heap[s + 1 + 1 + 1 + 1]? = some o4 ∧ W.heap[s + 1 + 1 + 1 + 1 + 1]? = some o5 := by
  have s1 := al_size w o0 hs
  have s2 := al_size _ o1 s1
  have s3 := al_size _ o2 s2
  have s4 := al_size _ o3 s3
  have s5 := al_size _ o4 s4
  have s6 := al_size _ o5 s5
  have hB : Below w.heap.size w ((((((w.alloc o0).alloc o1).alloc o2).alloc o3).alloc o4).alloc o5) := below_then (below_then (below_then (below_then (below_then (below_al w o0) (below_al _ o1)) (below_al _ o2)) (below_al _ o3)) (below_al _ o4)) (below_al _ o5)
  refine ⟨_, rfl, by rw [hs] at hB; exact hB, by omega, ?_, ?_, ?_, ?_, ?_, ?_⟩
  · exact al_at (al_at (al_at (al_at (al_at (al_last _ _ hs)))))
  · exact al_at (al_at (al_at (al_at (al_last _ _ s1))))
  · exact al_at (al_at (al_at (al_last _ _ s2)))
  · exact al_at (al_at (al_last _ _ s3))
  · exact al_at (al_last _ _ s4)
  · exact al_last _ _ s5

/-- Between two rounds. -/
structure IScan (w : World) (s b1 b2 b3 b4 : Nat) (ys : List Rec) (W : World) : Prop where
  r0 : Boxed W s 23 (.slice none 0 0)
  r1 : Boxed W b1 3 (.int .i64 0)
  r2 : Boxed W b2 30 (.int .i64 0)
  r4 : Boxed W b4 3 (.int .i64 (lastOff ys))
  bel : Below s w W
  sz : s + 6 ≤ W.heap.size
  good : GoodE ys W
  row : ∃ v, Boxed W b3 23 v ∧ RowE (s + 6) ys v W
/-- A round has left. -/
structure XScan (w : World) (s b1 b2 : Nat) (ys : List Rec) (W : World) : Prop where
  ex : ∃ ys' x cd v, ys = ys' ++ [x] ∧ x.err = some cd ∧ Boxed W s 23 v ∧ RowE s ys' v W ∧ Boxed W b1 3 (.int .i64 (lastOff ys')) ∧ Boxed W b2 30 (.int .i64 (cd : Nat)) ∧ GoodE ys' W
  bel : Below s w W

theorem boxed_kept {W W' : World} {b B : Nat} {t : TypeId} {v : Value} {row : Option Nat} (h : Boxed W b t v) (hg : W.grownBy W' row) (hr : ∀ r, row = some r → B ≤ r ∧ ∃ o : Obj, W.heap[r]? = some o ∧ o.isCells = false) : Boxed W' b t v :=
  boxed_own b t (fun (_ : Unit) => v) () W W' row h hg (fun r e => (hr r e).2)
theorem bo_kept {W W' : World} {B : Nat} {A : Option Addr} {n c : Nat} {xs : List UInt8} {row : Option Nat} (h : Bo W A n c xs) (hg : W.grownBy W' row) (hr : ∀ r, row = some r → B ≤ r ∧ ∃ o : Obj, W.heap[r]? = some o ∧ o.isCells = false) : Bo W' A n c xs := by
  refine ⟨⟨h.bs.len, h.bs.le, h.bs.max, fun hp => ?_⟩, fun b o e => ?_⟩
  · obtain ⟨b, o, e, hc⟩ := h.bs.rd hp
    exact ⟨b, o, e, fun j u hj => cell_kept (hc j u hj) hg (fun r e => (hr r e).2)⟩
  · obtain ⟨cs, hc⟩ := h.ty b o e
    refine ⟨cs, (hg.block b (Array.getElem?_eq_some_iff.1 hc).1 (fun e => ?_)).trans hc⟩
    obtain ⟨_, ob, ho, hn⟩ := hr b e.symm
    rw [hc] at ho
    cases ho
    cases hn
theorem row_kept {W W' : World} {B s : Nat} {ys : List Rec} {v : Value} {row : Option Nat} (h : RowE s ys v W) (hg : W.grownBy W' row) (hr : ∀ r, row = some r → B ≤ r ∧ ∃ o : Obj, W.heap[r]? = some o ∧ o.isCells = false) : RowE s ys v W' := by
  refine World.ownsRow.kept h hg ?_
  rcases h.2 with ⟨rfl, _⟩ | ⟨g, cap, cur, rfl, _, hgb, _⟩
  · exact .inl rfl
  · refine .inr fun e => ?_
    obtain ⟨_, o, ho, hc⟩ := hr g e.symm
    rw [hgb] at ho
    cases ho
    cases hc
theorem good_kept {W W' : World} {B : Nat} {ys : List Rec} {row : Option Nat} (h : GoodE ys W) (hg : W.grownBy W' row) (hr : ∀ r, row = some r → B ≤ r ∧ ∃ o : Obj, W.heap[r]? = some o ∧ o.isCells = false) : GoodE ys W' :=
  fun x hx => ⟨(h x hx).1, bo_kept (h x hx).2 hg hr⟩
theorem bel_kept {w W W' : World} {B s : Nat} {row : Option Nat} (hs : s ≤ w.heap.size) (hB : s ≤ B) (h : Below s w W) (hg : W.grownBy W' row) (hr : ∀ r, row = some r → B ≤ r ∧ ∃ o : Obj, W.heap[r]? = some o ∧ o.isCells = false) : Below s w W' :=
  h.grown hg (Nat.le_trans hs h.size) (fun k e => Nat.le_trans hB (hr k e).1)
theorem iscan_own {w : World} {s b1 b2 b3 b4 B : Nat} (hs : s ≤ w.heap.size) (hB : s ≤ B) : OwnFrom B (IScan w s b1 b2 b3 b4) := fun ys W W' row h hg hr =>
  ⟨boxed_kept h.r0 hg hr, boxed_kept h.r1 hg hr, boxed_kept h.r2 hg hr, boxed_kept h.r4 hg hr, bel_kept hs hB h.bel hg hr, Nat.le_trans h.sz hg.size, good_kept h.good hg hr, by obtain ⟨v, h1, h2⟩ := h.row; exact ⟨v, boxed_kept h1 hg hr, row_kept h2 hg hr⟩⟩
theorem xscan_own {w : World} {s b1 b2 B : Nat} (hs : s ≤ w.heap.size) (hB : s ≤ B) : OwnFrom B (XScan w s b1 b2) := fun ys W W' row h hg hr => by
  obtain ⟨ys', x, cd, v, e1, e2, h1, h2, h3, h4, h5⟩ := h.ex
  exact ⟨⟨ys', x, cd, v, e1, e2, boxed_kept h1 hg hr, row_kept h2 hg hr, boxed_kept h3 hg hr, boxed_kept h4 hg hr, good_kept h5 hg hr⟩, bel_kept hs hB h.bel hg hr⟩

/-- The loop's variable in its box. -/
def recO (x : Rec) : Obj := .cells #[.int .i64 x.E.kind, .string (strOf x.E.key), .slice x.A x.m x.c, .int .i64 x.off, errV x.err] 64
def scanT (A : Option Addr) (n c s b1 b2 b3 b4 b5 Bx : Nat) (x : Rec) : Array Value :=
  #[.slice A n c, undef, .pointer (some ⟨s, 0, none⟩), .pointer (some ⟨b1, 0, none⟩), .pointer (some ⟨b2, 0, none⟩), .pointer (some ⟨b3, 0, none⟩), .pointer (some ⟨b4, 0, none⟩), .pointer (some ⟨Bx, 0, none⟩), undef, .slice A n c,
    .func (.func 42) #[] #[.pointer (some ⟨b5, 0, none⟩)], recV x, undef, undef, undef, undef, undef, undef, undef, undef, undef, undef, undef, undef, undef, undef, undef, undef, undef]
def AxScan (A : Option Addr) (n c s b1 b2 b3 b4 b5 : Nat) (x : Rec) (a : Act) (W : World) : Prop :=
  ∃ Bx, b5 < Bx ∧ W.heap[Bx]? = some (recO x) ∧ VRec x W ∧ a = { tmps := scanT A n c s b1 b2 b3 b4 b5 Bx x, defers := [] }
theorem ax_own {A : Option Addr} {n c s b1 b2 b3 b4 b5 B : Nat} (x : Rec) (a : Act) : OwnFrom B (fun (_ : Unit) W => AxScan A n c s b1 b2 b3 b4 b5 x a W) := fun _ W W' row h hg hr => by
  obtain ⟨Bx, h1, h2, h3, h4⟩ := h
  refine ⟨Bx, h1, ?_, bo_kept h3 hg hr, h4⟩
  refine (hg.block Bx (Array.getElem?_eq_some_iff.1 h2).1 (fun e => ?_)).trans h2
  obtain ⟨_, o, ho, hc⟩ := hr Bx e.symm
  rw [h2] at ho
  cases ho
  cases hc

theorem row_grown {U U' : World} {s b : Nat} {t : TypeId} {y : Value} {ys : List Rec} {v : Value} (h : RowE s ys v U) (hb : Boxed U b t y) (ht : t ≠ 25) (hg : U.grownBy U' (some b)) : RowE s ys v U' := by
  refine World.ownsRow.kept h hg ?_
  rcases h.2 with ⟨rfl, _⟩ | ⟨g, cap, cur, rfl, _, hgb, _⟩
  · exact .inl rfl
  · refine .inr fun e => ?_
    have e' : g = b := by simpa [Value.ownBlock] using e
    subst e'
    rw [show U.heap[g]? = _ from hb] at hgb
    cases hgb
    exact ht rfl
theorem good_grown {U U' : World} {b : Nat} {t : TypeId} {y : Value} {ys : List Rec} (h : GoodE ys U) (hb : Boxed U b t y) (ht : t ≠ 5) (hg : U.grownBy U' (some b)) : GoodE ys U' := fun x hx =>
  ⟨(h x hx).1, bo_grown (h x hx).2 hg hb ht⟩
theorem bel_grown {w U U' : World} {s b : Nat} (hw : s ≤ w.heap.size) (hs : s ≤ b) (h : Below s w U) (hg : U.grownBy U' (some b)) : Below s w U' :=
  h.grown hg (Nat.le_trans hw h.size) (fun k e => by cases e; exact hs)

/-- The facts that the results' three stores keep. -/
structure Keep4 (w : World) (s D : Nat) (ys : List Rec) (v : Value) (U : World) : Prop where
  row : RowE s ys v U
  bel : Below s w U
  good : GoodE ys U
  df : U.heap[D]? = some (.deferred (some []))

theorem keep4_set {w U : World} {s D b : Nat} {t : TypeId} {y z : Value} {ys : List Rec} {v : Value} (h : Keep4 w s D ys v U) (hw : s ≤ w.heap.size) (hs : s ≤ b) (hb : Boxed U b t y) (ht : t ≠ 25) (ht5 : t ≠ 5) : Keep4 w s D ys v (U.setCell ⟨b, 0, none⟩ z) := by
  have hg := grown_set U b 0 z
  refine ⟨row_grown h.row hb ht hg, bel_grown hw hs h.bel hg, good_grown h.good hb ht5 hg, ?_⟩
  refine (hg.block D (Array.getElem?_eq_some_iff.1 h.df).1 (fun e => ?_)).trans h.df
  have e' : D = b := by simpa using e
  have h2 := h.df
  rw [e', show U.heap[b]? = _ from hb] at h2
  cases h2

theorem set3_facts {w U : World} {s b1 b2 D : Nat} {ys : List Rec} {v v0 : Value} {A0 : Option Addr} {k0 c0 : Nat} {x1 x2 : Int} (y1 y2 : Int) (h : Keep4 w s D ys v0 U) (hw : s ≤ w.heap.size) (h1 : s < b1) (h2 : b1 < b2)
    (r0 : Boxed U s 23 (.slice A0 k0 c0)) (r1 : Boxed U b1 3 (.int .i64 x1)) (r2 : Boxed U b2 30 (.int .i64 x2)) :
    Keep4 w s D ys v0 (((U.setCell ⟨s, 0, none⟩ v).setCell ⟨b1, 0, none⟩ (.int .i64 y1)).setCell ⟨b2, 0, none⟩ (.int .i64 y2)) ∧
    Boxed (((U.setCell ⟨s, 0, none⟩ v).setCell ⟨b1, 0, none⟩ (.int .i64 y1)).setCell ⟨b2, 0, none⟩ (.int .i64 y2)) s 23 v ∧
    Boxed (((U.setCell ⟨s, 0, none⟩ v).setCell ⟨b1, 0, none⟩ (.int .i64 y1)).setCell ⟨b2, 0, none⟩ (.int .i64 y2)) b1 3 (.int .i64 y1) ∧
    Boxed (((U.setCell ⟨s, 0, none⟩ v).setCell ⟨b1, 0, none⟩ (.int .i64 y1)).setCell ⟨b2, 0, none⟩ (.int .i64 y2)) b2 30 (.int .i64 y2) := by
  have a0 : Boxed (U.setCell ⟨s, 0, none⟩ v) s 23 v := heap_setCell_same U s 0 _ 23 v r0
  have a1 := r1.other (show b1 ≠ s by omega) v
  have a2 := r2.other (show b2 ≠ s by omega) v
  have k1 := keep4_set (z := v) h hw (Nat.le_refl _) r0 (by decide) (by decide)
  have c1 : Boxed ((U.setCell ⟨s, 0, none⟩ v).setCell ⟨b1, 0, none⟩ (.int .i64 y1)) b1 3 (.int .i64 y1) := heap_setCell_same _ b1 0 _ 3 _ a1
  have c0 := a0.other (show s ≠ b1 by omega) (.int .i64 y1)
  have c2 := a2.other (show b2 ≠ b1 by omega) (.int .i64 y1)
  have k2 := keep4_set (z := .int .i64 y1) k1 hw (by omega) a1 (by decide) (by decide)
  have d2 : Boxed (((U.setCell ⟨s, 0, none⟩ v).setCell ⟨b1, 0, none⟩ (.int .i64 y1)).setCell ⟨b2, 0, none⟩ (.int .i64 y2)) b2 30 (.int .i64 y2) := heap_setCell_same _ b2 0 _ 30 _ c2
  exact ⟨keep4_set k2 hw (by omega) c2 (by decide) (by decide), c0.other (by omega) _, c1.other (by omega) _, d2⟩

theorem good_drew {U : World} {ys : List Rec} (h : GoodE ys U) : GoodE ys U.drew := fun x hx => ⟨(h x hx).1, (h x hx).2.below (below_drewN U 1)⟩

/-- What Scan hands back. -/
def ScanP (w : World) (n : Nat) (xs : List UInt8) (e : Ending) (w' : World) : Prop :=
  ∃ v ys off cd, e = .returned (.tuple #[v, .int .i64 (off : Nat), .int .i64 (cd : Nat)]) ∧ RowE w.heap.size ys v w' ∧ Below w.heap.size w w' ∧ GoodE ys w' ∧ off = lastOff ys ∧
    ((cd = 0 ∧ ys.map Rec.key = recs (n + 1) 0 xs) ∨ ∃ p : Nat, ys.map Rec.key ++ [(En.zero, p, some cd)] = recs (n + 1) 0 xs)

theorem scan_ret {w U : World} {n s b1 b2 D : Nat} {xs : List UInt8} {tm : Array Value} {Av : Option Addr} {k cv : Nat} {ys : List Rec} {off cd : Nat} (hs : w.heap.size = s) (hD : s ≤ D)
    (t2 : tm.getD 2 undef = .pointer (some ⟨s, 0, none⟩)) (t3 : tm.getD 3 undef = .pointer (some ⟨b1, 0, none⟩)) (t4 : tm.getD 4 undef = .pointer (some ⟨b2, 0, none⟩))
    (hK : U.heap[D]? = some (.deferred (some []))) (k0 : Boxed U s 23 (.slice Av k cv)) (k1 : Boxed U b1 3 (.int .i64 off)) (k2 : Boxed U b2 30 (.int .i64 cd)) (row : RowE s ys (.slice Av k cv) U) (bel : Below s w U) (good : GoodE ys U) (hoff : off = lastOff ys)
    (hc : (cd = 0 ∧ ys.map Rec.key = recs (n + 1) 0 xs) ∨ ∃ p : Nat, ys.map Rec.key ++ [(En.zero, p, some cd)] = recs (n + 1) 0 xs) :
    bodyPostM Fence.wide 9 Tryd.prog Tryd.f16 (ScanP w n xs) Exit.ret { tmps := tm, defers := [{ target := .collected D, args := #[] }] } U := by
  have hg := grownBy_putObj' U D (.deferred none)
  have hr : ∀ r, some D = some r → s ≤ r ∧ ∃ o : Obj, U.heap[r]? = some o ∧ o.isCells = false := fun r e => by cases e; exact ⟨hD, _, hK, rfl⟩
  refine ⟨by simp, .inl ⟨_, _, rfl, run_takeDeferred hK, ?_⟩⟩
  have e0 := (boxed_kept k0 hg hr).cell
  have e1 := (boxed_kept k1 hg hr).cell
  have e2 := (boxed_kept k2 hg hr).cell
  have t2' : tm[2]?.getD undef = .pointer (some ⟨s, 0, none⟩) := by simpa using t2
  have t3' : tm[3]?.getD undef = .pointer (some ⟨b1, 0, none⟩) := by simpa using t3
  have t4' : tm[4]?.getD undef = .pointer (some ⟨b2, 0, none⟩) := by simpa using t4
  refine ⟨.tuple #[.slice Av k cv, .int .i64 (off : Nat), .int .i64 (cd : Nat)], ?_, .slice Av k cv, ys, off, cd, rfl, by rw [hs]; exact row_kept row hg hr, by rw [hs]; exact bel_kept (by omega) (Nat.le_refl _) bel hg hr, good_kept good hg hr, hoff, hc⟩
  simp [results, Tryd.results16, t2', t3', t4', asAddr, loadVar, isAgg, underlying, go_sem, e0, e1, e2]

theorem infoE25 : (Tryd.prog.info? 25).map (fun i => (i.zero, i.size, i.bytes)) = some (some (.agg #[.int .i64 0, .string ByteArray.empty, .slice none 0 0]), 3, 48) := by kernel_rfl

/-- The new element's cells. -/
def newE (x : Rec) : List Value := [.int .i64 x.E.kind, .string (strOf x.E.key), .slice x.A x.m x.c]

/-- Within the statement that appends: dn: what has come up; us: the temporaries. -/
structure Inv8 (U0 : World) (s b3 b4 Bx : Nat) (ys : List Rec) (x : Rec) (v0 : Value) (dn : Nat → Bool) (us : Nat → Value) (U : World) : Prop where
  f0 : dn 0 = true → us 20 = v0
  f1 : dn 1 = true → us 21 = .pointer (some ⟨Bx, 0, none⟩)
  f2 : dn 2 = true → us 22 = .agg (newE x).toArray
  f3 : dn 3 = true → ∃ g, us 23 = .slice (some ⟨g, 0, none⟩) 1 1 ∧ (dn 4 = false → U.heap[g]? = some (.cells (newE x).toArray 25))
  f5 : dn 5 = true → us 25 = .pointer (some ⟨Bx, 3, none⟩)
  f6 : dn 6 = true → us 26 = .int .i64 x.off
  box : U.heap[Bx]? = some (recO x)
  row0 : dn 4 = false → RowE (s + 6) ys v0 U
  row1 : dn 4 = true → U.ownsRow (s + 6) 25 3 (us 24) (ys.length + 1) (rowsOf ys ++ newE x)
  b3a : dn 7 = false → Boxed U b3 23 v0
  b3b : dn 7 = true → Boxed U b3 23 (us 24)
  b4a : dn 8 = false → Boxed U b4 3 (.int .i64 (lastOff ys))
  b4b : dn 8 = true → Boxed U b4 3 (.int .i64 x.off)
  size : U0.heap.size ≤ U.heap.size
  os : U.os = U0.os
  tape : U.tape = U0.tape
  output : U.output = U0.output
  oth : ∀ i, i < U0.heap.size → i ≠ b3 → i ≠ b4 → v0.ownBlock ≠ some i → U.heap[i]? = U0.heap[i]?
  c4 : dn 4 = true → dn 3 = true
  c7 : dn 7 = true → dn 0 = true ∧ dn 4 = true

theorem row_block {B g : Nat} {W : World} {ys : List Rec} {v : Value} (h : RowE B ys v W) (e : v.ownBlock = some g) : B ≤ g ∧ ∃ cur, W.heap[g]? = some (.cells cur 25 (0, 0)) := by
  rcases h.2 with ⟨rfl, _⟩ | ⟨g', cap, cur, rfl, hb, hgb, _⟩
  · cases e
  · have e' : g' = g := by simpa [Value.ownBlock] using e
    subst e'
    exact ⟨hb, cur, hgb⟩
theorem bo_block {W W' : World} {A : Option Addr} {n c : Nat} {xs : List UInt8} (h : Bo W A n c xs) (hg : ∀ (b : Nat) (cs : Array Value), W.heap[b]? = some (.cells cs 5 (0, 0)) → W'.heap[b]? = W.heap[b]?) : Bo W' A n c xs := by
  refine ⟨⟨h.bs.len, h.bs.le, h.bs.max, fun hp => ?_⟩, fun b o e => ?_⟩
  · obtain ⟨b, o, e, hc⟩ := h.bs.rd hp
    obtain ⟨cs, hb⟩ := h.ty b o e
    exact ⟨b, o, e, fun j u hj => (World.cell?_of_block (hg b cs hb)).trans (hc j u hj)⟩
  · obtain ⟨cs, hb⟩ := h.ty b o e
    exact ⟨cs, (hg b cs hb).trans hb⟩

/-- Behind the statement that appends. -/
theorem fin8 {w W U : World} {s b1 b2 b3 b4 b5 Bx B0 : Nat} {pre : List Rec} {x : Rec} {v0 : Value} {dn : Nat → Bool} {us : Nat → Value} (hI : IScan w s b1 b2 b3 b4 pre W) (hrow0 : RowE (s + 6) pre v0 W) (hv0 : Boxed W b3 23 v0) (hV : VRec x W) (hx : x.err = none) (hws : w.heap.size = s)
    (e1 : s + 1 = b1) (e2 : b1 + 1 = b2) (e3 : b2 + 1 = b3) (e4 : b3 + 1 = b4) (e5 : b4 + 1 = b5) (hB : B0 = s + 6)
    (hdn : ∀ j, j < 9 → dn j = true) (hv : Inv8 (W.alloc (.cells #[.int .i64 0] 66)).drew s b3 b4 Bx pre x v0 dn us U) :
    KeepsFrom B0 W U ∧ KpS s b5 W U ∧ IScan w s b1 b2 b3 b4 (pre ++ [x]) U := by
  have hsz := hI.sz
  have hUs : W.heap.size + 1 ≤ U.heap.size := by have := hv.size; simp at this; exact this
  have oth : ∀ i, i < W.heap.size → i ≠ b3 → i ≠ b4 → v0.ownBlock ≠ some i → U.heap[i]? = W.heap[i]? := fun i hi h1 h2 h3 =>
    (hv.oth i (by simp; omega) h1 h2 h3).trans ((below_al W _).block i hi)
  have own : ∀ i, i < s + 6 → v0.ownBlock ≠ some i := fun i hi e => by have := (row_block hrow0 e).1; omega
  have low : ∀ i, i < s + 6 → i ≠ b3 → i ≠ b4 → U.heap[i]? = W.heap[i]? := fun i hi h1 h2 => oth i (by omega) h1 h2 (own i hi)
  have hbel : Below s W U := ⟨hv.os, hv.tape, hv.output, by omega, fun i hi => low i (by omega) (by omega) (by omega)⟩
  have bytes : ∀ (b : Nat) (cs : Array Value), W.heap[b]? = some (.cells cs 5 (0, 0)) → U.heap[b]? = W.heap[b]? := fun b cs hb => by
    refine oth b (Array.getElem?_eq_some_iff.1 hb).1 (fun e => ?_) (fun e => ?_) (fun e => ?_)
    · rw [e, show W.heap[b3]? = _ from hv0] at hb; cases hb
    · rw [e, show W.heap[b4]? = _ from hI.r4] at hb; cases hb
    · obtain ⟨_, cur, hc⟩ := row_block hrow0 e
      rw [hc] at hb; cases hb
  refine ⟨⟨by omega, fun k o hk ho hc => ?_⟩, ⟨hbel, fun o ho => (low b5 (by omega) (by omega) (by omega)).trans ho, by omega⟩, ?_⟩
  · refine (oth k (Array.getElem?_eq_some_iff.1 ho).1 (by omega) (by omega) (fun e => ?_)).trans ho
    obtain ⟨_, cur, hc2⟩ := row_block hrow0 e
    rw [hc2] at ho; cases ho; cases hc
  · refine ⟨(low s (by omega) (by omega) (by omega)).trans hI.r0, (low b1 (by omega) (by omega) (by omega)).trans hI.r1, (low b2 (by omega) (by omega) (by omega)).trans hI.r2, ?_, hI.bel.trans hbel, by omega, fun y hy => ?_, us 24, hv.b3b (hdn 7 (by decide)), ?_⟩
    · have := hv.b4b (hdn 8 (by decide))
      rwa [show lastOff (pre ++ [x]) = x.off by simp [lastOff]]
    · rcases List.mem_append.1 hy with h | h
      · exact ⟨(hI.good y h).1, bo_block (hI.good y h).2 bytes⟩
      · rw [List.mem_singleton] at h
        subst h
        exact ⟨hx, bo_block hV bytes⟩
    · have := hv.row1 (hdn 4 (by decide))
      unfold RowE
      rw [show (pre ++ [x]).length = pre.length + 1 by simp, show rowsOf (pre ++ [x]) = rowsOf pre ++ newE x by simp [rowsOf, newE]]
      exact this

theorem row_other {U U' : World} {B i : Nat} {ys : List Rec} {v : Value} {cs : Array Value} {t : TypeId} (h : RowE B ys v U) (hg : U.grownBy U' v.ownBlock) (hi : U.heap[i]? = some (.cells cs t (0, 0))) (ht : t ≠ 25) : U'.heap[i]? = some (.cells cs t (0, 0)) := by
  refine (hg.block i (Array.getElem?_eq_some_iff.1 hi).1 ?_).trans hi
  rcases h.2 with ⟨rfl, _⟩ | ⟨g, cap, cur, rfl, _, hgb, _⟩
  · simp [Value.ownBlock]
  · intro e
    have e' : i = g := by simpa [Value.ownBlock] using e
    subst e'
    rw [hi] at hgb
    cases hgb
    exact ht rfl
theorem owns_other {U U' : World} {B b k : Nat} {v y : Value} {xs : List Value} {t : TypeId} (h : U.ownsRow B 25 3 v k xs) (hb : Boxed U b t y) (ht : t ≠ 25) (hg : U.grownBy U' (some b)) : U'.ownsRow B 25 3 v k xs := by
  refine World.ownsRow.kept h hg ?_
  rcases h.2 with ⟨rfl, _⟩ | ⟨g, cap, cur, rfl, _, hgb, _⟩
  · exact .inl rfl
  · refine .inr fun e => ?_
    have e' : g = b := by simpa [Value.ownBlock] using e
    subst e'
    rw [show U.heap[g]? = _ from hb] at hgb
    cases hgb
    exact ht rfl

/-- What the results' stores keep, in a round. -/
structure Kept7 (w W : World) (s B0 : Nat) (ys : List Rec) (v0 : Value) (U : World) : Prop where
  row : RowE (s + 6) ys v0 U
  bel : Below s w U
  good : GoodE ys U
  kf : KeepsFrom B0 W U
theorem kept7_set {w W U : World} {s B0 b : Nat} {ys : List Rec} {v0 y z : Value} {t : TypeId} (h : Kept7 w W s B0 ys v0 U) (hw : s ≤ w.heap.size) (h1 : s ≤ b) (h2 : b < B0) (hb : Boxed U b t y) (ht : t ≠ 25) (ht5 : t ≠ 5) : Kept7 w W s B0 ys v0 (U.setCell ⟨b, 0, none⟩ z) := by
  have hg := grown_set U b 0 z
  exact ⟨row_grown h.row hb ht hg, bel_grown hw h1 h.bel hg, good_grown h.good hb ht5 hg, h.kf.trans (KeepsFrom.of_grownBy hg (fun j e => by cases e; exact h2))⟩

/-- Within the statement that hands back the damage. -/
structure Inv7 (w W : World) (s b1 b2 b3 b4 p B0 : Nat) (ys : List Rec) (cd : Nat) (v0 : Value) (dn : Nat → Bool) (us : Nat → Value) (U : World) : Prop where
  f0 : dn 0 = true → us 16 = v0
  f1 : dn 1 = true → us 17 = .int .i64 (lastOff ys)
  f2 : dn 2 = true → us 18 = .pointer (some ⟨p, 0, none⟩)
  f3 : dn 3 = true → us 19 = .int .i64 (cd : Nat)
  a0 : dn 4 = false → Boxed U s 23 (.slice none 0 0)
  a1 : dn 5 = false → Boxed U b1 3 (.int .i64 0)
  a2 : dn 6 = false → Boxed U b2 30 (.int .i64 0)
  d0 : dn 4 = true → Boxed U s 23 v0
  d1 : dn 5 = true → Boxed U b1 3 (.int .i64 (lastOff ys))
  d2 : dn 6 = true → Boxed U b2 30 (.int .i64 (cd : Nat))
  c3 : Boxed U b3 23 v0
  c4 : Boxed U b4 3 (.int .i64 (lastOff ys))
  cp : Boxed U p 66 (.int .i64 (cd : Nat))
  kp : Kept7 w W s B0 ys v0 U

set_option maxRecDepth 100000 in
set_option maxHeartbeats 4000000 in
theorem scan_walk (A : Option Addr) (n c : Nat) (xs : List UInt8) (w : World) (hb : Bs w A n c xs) (hn : n ≤ 100000000) (hG : GOk w) :
    Calls Tryd.prog 16 #[.slice A n c] w fun e w' => ScanP w n xs e w' := by
  refine (callsIn_wide (n := 9)).1 ?_
  refine callsIn_of_wp_marks Tryd.func16 rfl trivial ?_ rfl
  simp only [Tryd.ntmps16, List.size_toArray, List.length_cons, List.length_nil, Nat.reduceAdd, Nat.reduceSub, Array.replicate_succ, Array.replicate_zero, List.push_toArray, List.append_toArray, List.nil_append, List.cons_append]
  gi_wp2_with (refine ⟨trivial, ?_⟩; gi_at_call 31; refine (callsIn_wide.2 (records31 _ _ _ _)).mono ?_; rintro e w1 ⟨rfl, rfl⟩)
  obtain ⟨W0, hW0, hB0, hsz, f0, f1, f2, f3, f4, f5⟩ := six_al w (.cells #[.slice none 0 0] 23) (.cells #[.int .i64 0] 3) (.cells #[.int .i64 0] 30) (.cells #[.slice none 0 0] 23) (.cells #[.int .i64 0] 3) (.cells #[.slice A n c] 22) rfl
  rw [← hW0]
  clear hW0
  have hit : ItOk w (w.heap.size + 1 + 1 + 1 + 1 + 1) A n c W0 := ⟨hB0, f5⟩
  have hstop := records_stops 8 (by omega) (w.heap.size + 1 + 1 + 1 + 1 + 1) A n c xs w W0 hb hn (by omega) hit
  clear hit f5
  generalize hb5 : w.heap.size + 1 + 1 + 1 + 1 + 1 = b5 at *
  generalize hb4 : w.heap.size + 1 + 1 + 1 + 1 = b4 at *
  generalize hb3 : w.heap.size + 1 + 1 + 1 = b3 at *
  generalize hb2 : w.heap.size + 1 + 1 = b2 at *
  generalize hb1 : w.heap.size + 1 = b1 at *
  generalize hs0 : w.heap.size = s at *
  have hKb : ∀ (W : World) (l : Nat) (o o' : Obj), W0.heap.size ≤ l → W.heap[l]? = some o → o.isCells = false → o.isWalk = false → KpS s b5 W (W.putObj l o') := fun W l o o' hl ho hc _ =>
    ⟨belowK_b (w := W0) (by omega) W l o o' hl ho hc ‹_›, fun x hx => (World.putObj_heap_other (by omega)).trans hx, by simp [World.putObj]⟩
  refine rangeFuncV (w := W0) (V := VRec) rfl (by omega) (gf := 42) (lb := #[.pointer (some ⟨b5, 0, none⟩)]) rfl trivial (enters_of Tryd.func42 (by kernel_rfl) rfl) hstop (fun h k => h.trans k) hKb (Below.refl _ _) (fun _ => rfl)
    (IScan w s b1 b2 b3 b4) (fun cc ys W => cc = .ret ∧ XScan w s b1 b2 ys W) (iscan_own (by omega) (by omega)) (fun cc ys W W' row h hg hr => ⟨h.1, xscan_own (B := W0.heap.size) (by omega) (by omega) ys W W' row h.2 hg hr⟩)
    ⟨f0, f1, f2, f4, hB0, by omega, fun x hx => (by cases hx), ⟨.slice none 0 0, f3, World.ownsRow_nil _ _ _ _⟩⟩ (AxScan A n c s b1 b2 b3 b4 b5) (fun x a => ax_own x a) ?assign ?body ?done ?stop
  case assign =>
    rintro l pre x W K hI hV hK
    have hle : W0.heap.size ≤ W.heap.size := by have := hI.sz; omega
    have fin : K { tmps := scanT A n c s b1 b2 b3 b4 b5 W.heap.size x, defers := [] } (W.alloc (recO x)) := by
      have hg := World.grownBy_alloc W (recO x) none
      refine hK _ _ ((KeepsOthers.alloc _ _).from _) (KpS.of_below (by omega) (by omega) (below_al W _)) (iscan_own (B := s) (by omega) (Nat.le_refl _) pre W _ none hI hg (fun r e => by cases e)) ⟨W.heap.size, by omega, heap_alloc_new _ _, bo_kept (B := 0) hV hg (fun r e => by cases e), rfl⟩
    clear hK
    obtain ⟨E, A', m', c', off, err⟩ := x
    cases err with
    | none =>
      simp only [recV, errV]
      gi_wp2
      exact fin
    | some cd =>
      simp only [recV, errV]
      gi_wp2
      exact fin
  case body =>
    rintro l pre x a' W hl ⟨r, hr⟩ hI ⟨Bx, hBx, hox, hV, rfl⟩ hlen
    have hsW := hI.sz
    have hBl : Bx < W.heap.size := (Array.getElem?_eq_some_iff.1 hox).1
    have hGW : GOk (W.alloc (.cells #[.int .i64 0] 66)) := by
      have h0 : 0 < w.heap.size := World.block_lt_of_cell? w ⟨0, 0, none⟩ hG
      have h1 : W.cell? ⟨0, 0, none⟩ = some (.iface 96 (.agg #[.pointer (some ⟨1, 62, none⟩)])) := (hI.bel.cell (p := ⟨0, 0, none⟩) (by show 0 < _; omega)).trans hG
      exact cell_step h1 (below_al _ _)
    have hoA := al_at (o := .cells #[.int .i64 0] 66) hox
    have h1n : 1 ≤ 9 - 1 - 1 := by decide
    obtain ⟨E, A', m', c', off, err⟩ := x
    cases err with
    | none =>
      have ce := cell_of_row _ Bx 4 _ 64 (0, 0) hoA
      simp only [errV, List.getElem?_toArray, List.getElem?_cons_succ, List.getElem?_cons_zero] at ce
      have HO := Lib.hid hox
      have HI := Lib.hid hI
      have HV := Lib.hid hV
      clear hox hoA hI hV hr hGW
      unfold scanT
      gi_wp2_with (refine ⟨trivial, ?_⟩; gi_at_call 32; refine (CallsIn.inRound l (callsIn_wide.2 (as_nil _ _))).mono ?_; rintro e w' ⟨rfl, rfl⟩)
      have hbox : (W.alloc (.cells #[.int .i64 0] 66)).drew.heap[Bx]? = some (recO ⟨E, A', m', c', off, none⟩) := al_at HO.out
      obtain ⟨v0, hv0, hrow0⟩ := HI.out.row
      obtain ⟨Av, cv, rfl, -⟩ := own_shape hrow0
      have hh := World.grownBy_alloc W (.cells #[.int .i64 0] 66) none
      refine region_inv_in (by kernel_rfl) (by kernel_rfl) (fun h => by obtain ⟨_, _, h⟩ := h; exact h) ?_
      refine any_inv [[21, 22, 23, 25, 26], [20, 23, 24, 25, 26], [20, 21, 24, 25, 26], [20, 21, 22, 25, 26], [20, 21, 22, 23, 25, 26], [20, 21, 22, 23, 24], [20, 21, 22, 23, 24, 25], [20, 21, 22, 23, 24, 25, 26], [20, 21, 22, 23, 24, 25, 26]] [20, 21, 22, 23, 24, 25, 26] 29 rfl (by kernel_rfl)
        (Inv8 (W.alloc (.cells #[.int .i64 0] 66)).drew s b3 b4 Bx pre ⟨E, A', m', c', off, none⟩ (.slice Av pre.length cv)) ?_ ?_ ?_
      · exact ⟨fun h => (by cases h), fun h => (by cases h), fun h => (by cases h), fun h => (by cases h), fun h => (by cases h), fun h => (by cases h), hbox, fun _ => row_kept (B := 0) (W' := W.alloc (.cells #[.int .i64 0] 66)) hrow0 hh (fun r e => by cases e), fun h => (by cases h), fun _ => al_at hv0, fun h => (by cases h), fun _ => al_at HI.out.r4, fun h => (by cases h), Nat.le_refl _, rfl, rfl, rfl, fun _ _ _ _ _ => rfl, fun h => (by cases h), fun h => (by cases h)⟩
      · refine ⟨?_, ?_, ?_, ?_, ?_, ?_, ?_, ?_, ?_, trivial⟩
        · intro dn us U hi haft hv K hK
          simp only [fillT, Act.put, List.setIfInBounds_toArray, List.set_cons_zero, List.set_cons_succ] at hK ⊢
          have h7 : dn 7 = false := by
            cases h : dn 7 with
            | false => rfl
            | true => rw [(hv.c7 h).1] at hi; cases hi
          have c3 := (hv.b3a h7).cell
          go_wp2_with fail
          exact hK _ _ ⟨fun _ => rfl, hv.f1, hv.f2, hv.f3, hv.f5, hv.f6, hv.box, hv.row0, hv.row1, hv.b3a, hv.b3b, hv.b4a, hv.b4b, hv.size, hv.os, hv.tape, hv.output, hv.oth, hv.c4, fun h => ⟨rfl, (hv.c7 h).2⟩⟩
        · intro dn us U hi haft hv K hK
          simp only [fillT, Act.put, List.setIfInBounds_toArray, List.set_cons_zero, List.set_cons_succ] at hK ⊢
          go_wp2_with fail
          exact hK _ _ ⟨hv.f0, fun _ => rfl, hv.f2, hv.f3, hv.f5, hv.f6, hv.box, hv.row0, hv.row1, hv.b3a, hv.b3b, hv.b4a, hv.b4b, hv.size, hv.os, hv.tape, hv.output, hv.oth, hv.c4, hv.c7⟩
        · intro dn us U hi haft hv K hK
          simp only [fillT, Act.put, List.setIfInBounds_toArray, List.set_cons_zero, List.set_cons_succ] at hK ⊢
          have h1 := hv.f1 (haft ⟨1, .data⟩ (by simp) (by decide))
          rw [h1] at hK ⊢
          have hr : U.rangeAt Bx 0 [.int .i64 E.kind, .string (strOf E.key), .slice A' m' c'] := World.rangeAt_of_block hv.box 0 3
          go_wp2_with ((with_reducible refine load3 Bx E.kind (strOf E.key) A' m' c' ?_ ?_ ?_); exact rfl; exact hr)
          exact hK _ _ ⟨hv.f0, hv.f1, fun _ => rfl, hv.f3, hv.f5, hv.f6, hv.box, hv.row0, hv.row1, hv.b3a, hv.b3b, hv.b4a, hv.b4b, hv.size, hv.os, hv.tape, hv.output, hv.oth, hv.c4, hv.c7⟩
        · intro dn us U hi haft hv K hK
          simp only [fillT, Act.put, List.setIfInBounds_toArray, List.set_cons_zero, List.set_cons_succ] at hK ⊢
          have h2 := hv.f2 (haft ⟨2, .data⟩ (by simp) (by decide))
          have h4 : dn 4 = false := by
            cases h : dn 4 with
            | false => rfl
            | true => rw [hv.c4 h] at hi; cases hi
          rw [h2] at hK ⊢
          simp only [newE] at hK ⊢
          go_wp2_with fail
          have ha := World.grownBy_alloc U (.cells #[.int .i64 E.kind, .string (strOf E.key), .slice A' m' c'] 25) none
          have hs := hv.size
          exact hK _ _ ⟨hv.f0, hv.f1, hv.f2, fun _ => ⟨U.heap.size, rfl, fun _ => heap_alloc_new _ _⟩, hv.f5, hv.f6, al_at hv.box, fun h => row_kept (B := 0) (hv.row0 h) ha (fun r e => by cases e), fun h => (by rw [show dn 4 = true from h] at h4; cases h4), fun h => al_at (hv.b3a h), fun h => al_at (hv.b3b h), fun h => al_at (hv.b4a h), fun h => al_at (hv.b4b h), Nat.le_trans hs ha.size, hv.os, hv.tape, hv.output, fun i h1 h2 h3 h4 => (ha.block i (by omega) (by simp)).trans (hv.oth i h1 h2 h3 h4), fun _ => rfl, hv.c7⟩
        · intro dn us U hi haft hv K hK
          simp only [fillT, Act.put, List.setIfInBounds_toArray, List.set_cons_zero, List.set_cons_succ] at hK ⊢
          have h0 := hv.f0 (haft ⟨0, .data⟩ (by simp) (by decide))
          obtain ⟨g, h3, hg3⟩ := hv.f3 (haft ⟨3, .data⟩ (by simp) (by decide))
          have hg4 := hg3 hi
          have hrow := hv.row0 hi
          have h7 : dn 7 = false := by
            cases h : dn 7 with
            | false => rfl
            | true => rw [(hv.c7 h).2] at hi; cases hi
          rw [h0, h3] at hK ⊢
          obtain ⟨i0, hi0, hz0, hz1, hz2⟩ := info_parts infoE25
          have hnews : ∀ (j : Nat) u, (newE ⟨E, A', m', c', off, none⟩)[j]? = some u → U.cell? ((⟨g, 0, none⟩ : Addr).add j) = some u := fun j u hj => by
            rw [Addr.add_lit, Nat.zero_add, cell_of_row U g j _ 25 (0, 0) hg4]
            simpa using hj
          have hone : ∀ u ∈ newE ⟨E, A', m', c', off, none⟩, u.oneCell' = true := fun u hu => by
            simp only [newE, List.mem_cons, List.not_mem_nil, or_false] at hu
            rcases hu with rfl | rfl | rfl <;> rfl
          have hpl : pre.length ≤ n + 1 := by have := recs_len (n + 1) 0 xs; omega
          have hsU := hv.size
          have hsW2 : s + 6 ≤ U.heap.size := by simp at hsU; omega
          go_wp2_with (at_builtin; go_must (refine wpList_append_own_at _ rfl _ _ 23 rfl (s + 6) 25 i0 _ 3 48 Tryd.underlying23 hi0 hz0 hz1 hz2 rfl (by decide) _ pre.length _ rfl hrow ⟨g, 0, none⟩ 1 1 (newE ⟨E, A', m', c', off, none⟩) rfl rfl hnews hone ?_ ?_ hsW2 ?_))
          · simp [maxLen]; omega
          · omega
          · intro v' w' hown hgr _ _
            go_wp2_with fail
            exact hK _ _ ⟨hv.f0, hv.f1, hv.f2, fun h => (by obtain ⟨g, e, _⟩ := hv.f3 h; exact ⟨g, e, fun h => (by cases h)⟩), hv.f5, hv.f6, row_other hrow hgr hv.box (by decide), fun h => (by cases h), fun _ => hown, fun h => row_other hrow hgr (hv.b3a h) (by decide), fun h => (by rw [show dn 7 = true from h] at h7; cases h7), fun h => row_other hrow hgr (hv.b4a h) (by decide), fun h => row_other hrow hgr (hv.b4b h) (by decide), Nat.le_trans hv.size hgr.size, hgr.os.trans hv.os, hgr.tape.trans hv.tape, hgr.output.trans hv.output, fun i h1 h2 h3 h4 => (hgr.block i (by omega) (fun e => h4 e.symm)).trans (hv.oth i h1 h2 h3 h4), fun _ => haft ⟨3, .data⟩ (by simp) (by decide), fun h => (by rw [show dn 7 = true from h] at h7; cases h7)⟩
        · intro dn us U hi haft hv K hK
          simp only [fillT, Act.put, List.setIfInBounds_toArray, List.set_cons_zero, List.set_cons_succ] at hK ⊢
          go_wp2_with fail
          exact hK _ _ ⟨hv.f0, hv.f1, hv.f2, hv.f3, fun _ => rfl, hv.f6, hv.box, hv.row0, hv.row1, hv.b3a, hv.b3b, hv.b4a, hv.b4b, hv.size, hv.os, hv.tape, hv.output, hv.oth, hv.c4, hv.c7⟩
        · intro dn us U hi haft hv K hK
          simp only [fillT, Act.put, List.setIfInBounds_toArray, List.set_cons_zero, List.set_cons_succ] at hK ⊢
          have h5 := hv.f5 (haft ⟨5, .data⟩ (by simp) (by decide))
          rw [h5] at hK ⊢
          have ce := cell_of_row _ Bx 3 _ 64 (0, 0) hv.box
          simp only [errV, List.getElem?_toArray, List.getElem?_cons_succ, List.getElem?_cons_zero] at ce
          go_wp2_with fail
          exact hK _ _ ⟨hv.f0, hv.f1, hv.f2, hv.f3, hv.f5, fun _ => rfl, hv.box, hv.row0, hv.row1, hv.b3a, hv.b3b, hv.b4a, hv.b4b, hv.size, hv.os, hv.tape, hv.output, hv.oth, hv.c4, hv.c7⟩
        · intro dn us U hi haft hv K hK
          simp only [fillT, Act.put, List.setIfInBounds_toArray, List.set_cons_zero, List.set_cons_succ] at hK ⊢
          have h4 : dn 4 = true := haft ⟨4, .data⟩ (by simp) (by decide)
          have h0 : dn 0 = true := haft ⟨0, .phase⟩ (by simp) (by decide)
          have h3 : dn 3 = true := haft ⟨3, .phase⟩ (by simp) (by decide)
          obtain ⟨A2, c2, h24, -⟩ := own_shape (hv.row1 h4)
          have hb := hv.b3a hi
          have c3 := hb.cell
          have z3 := hb.frozen
          have hsU := hv.size
          rw [h24] at hK ⊢
          have hg := grown_set U b3 0 (.slice A2 (pre.length + 1) c2)
          have hb2 : Boxed (U.setCell ⟨b3, 0, none⟩ (.slice A2 (pre.length + 1) c2)) b3 23 (us 24) := by rw [h24]; exact heap_setCell_same U b3 0 _ 23 _ hb
          have HV := Lib.hid hv
          clear hv hb
          go_wp2_with fail
          exact hK undef _ ⟨HV.out.f0, HV.out.f1, HV.out.f2, fun h => (by obtain ⟨g, e, _⟩ := HV.out.f3 h; exact ⟨g, e, fun h' => (by rw [show dn 4 = false from h'] at h4; cases h4)⟩), HV.out.f5, HV.out.f6, (hg.block Bx (by simp at hsU; omega) (fun e => by have : Bx = b3 := (by simpa using e); omega)).trans HV.out.box, fun h => (by rw [show dn 4 = false from h] at h4; cases h4), fun _ => owns_other (HV.out.row1 h4) (HV.out.b3a hi) (by decide) hg, fun h => (by cases h), fun _ => hb2, fun h => (HV.out.b4a h).other (by omega) _, fun h => (HV.out.b4b h).other (by omega) _, Nat.le_trans HV.out.size hg.size, HV.out.os, HV.out.tape, HV.out.output, fun i h1 h2 h3 h4 => (hg.block i (by omega) (fun e => h2 (by simpa using e))).trans (HV.out.oth i h1 h2 h3 h4), fun _ => h3, fun _ => ⟨h0, h4⟩⟩
        · intro dn us U hi haft hv K hK
          simp only [fillT, Act.put, List.setIfInBounds_toArray, List.set_cons_zero, List.set_cons_succ] at hK ⊢
          have h7 : dn 7 = true := haft ⟨7, .chain⟩ (by simp) (by decide)
          have h26 := hv.f6 (haft ⟨6, .data⟩ (by simp) (by decide))
          have h4 := (hv.c7 h7).2
          have hb := hv.b4a hi
          have c4 := hb.cell
          have z4 := hb.frozen
          have hsU := hv.size
          rw [h26] at hK ⊢
          have hg := grown_set U b4 0 (.int .i64 off)
          have hb2 : Boxed (U.setCell ⟨b4, 0, none⟩ (.int .i64 off)) b4 3 (.int .i64 off) := heap_setCell_same U b4 0 _ 3 _ hb
          have HV := Lib.hid hv
          clear hv hb
          go_wp2_with fail
          exact hK undef _ ⟨HV.out.f0, HV.out.f1, HV.out.f2, fun h => (by obtain ⟨g, e, _⟩ := HV.out.f3 h; exact ⟨g, e, fun h' => (by rw [show dn 4 = false from h'] at h4; cases h4)⟩), HV.out.f5, HV.out.f6, (hg.block Bx (by simp at hsU; omega) (fun e => by have : Bx = b4 := (by simpa using e); omega)).trans HV.out.box, fun h => (by rw [show dn 4 = false from h] at h4; cases h4), fun _ => owns_other (HV.out.row1 h4) (HV.out.b4a hi) (by decide) hg, fun h => (HV.out.b3a h).other (by omega) _, fun h => (HV.out.b3b h).other (by omega) _, fun h => (by cases h), fun _ => hb2, Nat.le_trans HV.out.size hg.size, HV.out.os, HV.out.tape, HV.out.output, fun i h1 h2 h3 h4 => (hg.block i (by omega) (fun e => h3 (by simpa using e))).trans (HV.out.oth i h1 h2 h3 h4), HV.out.c4, HV.out.c7⟩
      · intro dn us U hdn hv
        exact fin8 HI.out hrow0 hv0 HV.out rfl hs0 hb1 (by omega) (by omega) (by omega) (by omega) hsz hdn hv
    | some cd =>
      have ce := cell_of_row _ Bx 4 _ 64 (0, 0) hoA
      simp only [errV, List.getElem?_toArray, List.getElem?_cons_succ, List.getElem?_cons_zero] at ce
      have hp66 := heap_alloc_new W (.cells #[.int .i64 0] 66)
      have hcall := as_some cd 0 W.heap.size _ hGW hp66
      have HI := Lib.hid hI
      clear hox hoA hI hV hr hGW hp66
      unfold scanT
      gi_wp2_with (refine ⟨trivial, ?_⟩; gi_at_call 32; refine (CallsIn.inRound l (callsIn_wide.2 hcall)).mono ?_; rintro e w' ⟨rfl, hg, hk⟩)
      obtain ⟨v0, hv0, hrow0⟩ := HI.out.row
      obtain ⟨Av, cv, rfl, -⟩ := own_shape hrow0
      have hsame : ∀ i, i < W.heap.size → w'.heap[i]? = W.heap[i]? := fun i hi => (grown_diff (b := 0) hg (by omega) (by simp; omega)).trans ((below_al W _).block i hi)
      have hgW : W.grownBy w' none := ⟨hg.os, hg.tape, hg.output, by have := hg.size; simp at this; omega, fun i hi _ => hsame i hi⟩
      have hkp : Kept7 w W s W0.heap.size pre (.slice Av pre.length cv) w'.drew := by
        refine ⟨row_kept (B := 0) (W' := w') hrow0 hgW (fun r e => by cases e), drew_of (bel_kept (B := s) (by omega) (Nat.le_refl _) HI.out.bel hgW (fun r e => by cases e)), good_drew (good_kept (B := 0) HI.out.good hgW (fun r e => by cases e)), ⟨hgW.size, fun k o hk ho _ => (hsame k (Array.getElem?_eq_some_iff.1 ho).1).trans ho⟩⟩
      have q0 : Boxed w'.drew s 23 (.slice none 0 0) := (hsame s (by omega)).trans HI.out.r0
      have q1 : Boxed w'.drew b1 3 (.int .i64 0) := (hsame b1 (by omega)).trans HI.out.r1
      have q2 : Boxed w'.drew b2 30 (.int .i64 0) := (hsame b2 (by omega)).trans HI.out.r2
      have q3 : Boxed w'.drew b3 23 (.slice Av pre.length cv) := (hsame b3 (by omega)).trans hv0
      have q4 : Boxed w'.drew b4 3 (.int .i64 (lastOff pre)) := (hsame b4 (by omega)).trans HI.out.r4
      have q5 : Boxed w'.drew W.heap.size 66 (.int .i64 (cd : Nat)) := hk
      refine region_inv_in (by kernel_rfl) (by kernel_rfl) (fun h => by obtain ⟨_, _, h⟩ := h; exact h) ?_
      refine any_inv [[17, 18, 19], [16, 18, 19], [16, 17], [16, 17, 18], [16, 17, 18, 19], [16, 17, 18, 19], [16, 17, 18, 19]] [16, 17, 18, 19] 29 rfl (by kernel_rfl)
        (Inv7 w W s b1 b2 b3 b4 W.heap.size W0.heap.size pre cd (.slice Av pre.length cv)) ?_ ?_ ?_
      · exact ⟨fun h => (by cases h), fun h => (by cases h), fun h => (by cases h), fun h => (by cases h), fun _ => q0, fun _ => q1, fun _ => q2, fun h => (by cases h), fun h => (by cases h), fun h => (by cases h), q3, q4, q5, hkp⟩
      · refine ⟨?_, ?_, ?_, ?_, ?_, ?_, ?_, trivial⟩
        · intro dn us U hi haft hv K hK
          simp only [fillT, Act.put, List.setIfInBounds_toArray, List.set_cons_zero, List.set_cons_succ] at hK ⊢
          have c3 := hv.c3.cell
          go_wp2_with fail
          exact hK _ _ ⟨(fun _ => rfl), hv.f1, hv.f2, hv.f3, hv.a0, hv.a1, hv.a2, hv.d0, hv.d1, hv.d2, hv.c3, hv.c4, hv.cp, hv.kp⟩
        · intro dn us U hi haft hv K hK
          simp only [fillT, Act.put, List.setIfInBounds_toArray, List.set_cons_zero, List.set_cons_succ] at hK ⊢
          have c4 := hv.c4.cell
          go_wp2_with fail
          exact hK _ _ ⟨hv.f0, (fun _ => rfl), hv.f2, hv.f3, hv.a0, hv.a1, hv.a2, hv.d0, hv.d1, hv.d2, hv.c3, hv.c4, hv.cp, hv.kp⟩
        · intro dn us U hi haft hv K hK
          simp only [fillT, Act.put, List.setIfInBounds_toArray, List.set_cons_zero, List.set_cons_succ] at hK ⊢
          go_wp2_with fail
          exact hK _ _ ⟨hv.f0, hv.f1, (fun _ => rfl), hv.f3, hv.a0, hv.a1, hv.a2, hv.d0, hv.d1, hv.d2, hv.c3, hv.c4, hv.cp, hv.kp⟩
        · intro dn us U hi haft hv K hK
          simp only [fillT, Act.put, List.setIfInBounds_toArray, List.set_cons_zero, List.set_cons_succ] at hK ⊢
          have h2 := hv.f2 (haft ⟨2, .data⟩ (by simp) (by decide))
          rw [h2] at hK ⊢
          have cp := hv.cp.cell
          go_wp2_with fail
          exact hK _ _ ⟨hv.f0, hv.f1, hv.f2, (fun _ => rfl), hv.a0, hv.a1, hv.a2, hv.d0, hv.d1, hv.d2, hv.c3, hv.c4, hv.cp, hv.kp⟩
        · intro dn us U hi haft hv K hK
          simp only [fillT, Act.put, List.setIfInBounds_toArray, List.set_cons_zero, List.set_cons_succ] at hK ⊢
          have hx := hv.f0 (haft ⟨0, .data⟩ (by simp) (by decide))
          have hb := hv.a0 hi
          have z1 := hb.cell
          have z2 := hb.frozen
          have hb2 : Boxed (U.setCell ⟨s, 0, none⟩ (.slice Av pre.length cv)) s 23 (.slice Av pre.length cv) := heap_setCell_same U s 0 _ 23 _ hb
          have hkp := kept7_set (z := (.slice Av pre.length cv)) hv.kp (by omega) (by omega) (by omega) hb (by decide) (by decide)
          rw [hx] at hK ⊢
          have HV := Lib.hid hv
          clear hv hb
          go_wp2_with fail
          exact hK undef _ ⟨HV.out.f0, HV.out.f1, HV.out.f2, HV.out.f3, (fun h => (by cases h)), (fun h => (HV.out.a1 h).other (by omega) _), (fun h => (HV.out.a2 h).other (by omega) _), (fun _ => hb2), (fun h => (HV.out.d1 h).other (by omega) _), (fun h => (HV.out.d2 h).other (by omega) _), (HV.out.c3.other (by omega) _), (HV.out.c4.other (by omega) _), (HV.out.cp.other (by omega) _), hkp⟩
        · intro dn us U hi haft hv K hK
          simp only [fillT, Act.put, List.setIfInBounds_toArray, List.set_cons_zero, List.set_cons_succ] at hK ⊢
          have hx := hv.f1 (haft ⟨1, .data⟩ (by simp) (by decide))
          have hb := hv.a1 hi
          have z1 := hb.cell
          have z2 := hb.frozen
          have hb2 : Boxed (U.setCell ⟨b1, 0, none⟩ (.int .i64 (lastOff pre))) b1 3 (.int .i64 (lastOff pre)) := heap_setCell_same U b1 0 _ 3 _ hb
          have hkp := kept7_set (z := (.int .i64 (lastOff pre))) hv.kp (by omega) (by omega) (by omega) hb (by decide) (by decide)
          rw [hx] at hK ⊢
          have HV := Lib.hid hv
          clear hv hb
          go_wp2_with fail
          exact hK undef _ ⟨HV.out.f0, HV.out.f1, HV.out.f2, HV.out.f3, (fun h => (HV.out.a0 h).other (by omega) _), (fun h => (by cases h)), (fun h => (HV.out.a2 h).other (by omega) _), (fun h => (HV.out.d0 h).other (by omega) _), (fun _ => hb2), (fun h => (HV.out.d2 h).other (by omega) _), (HV.out.c3.other (by omega) _), (HV.out.c4.other (by omega) _), (HV.out.cp.other (by omega) _), hkp⟩
        · intro dn us U hi haft hv K hK
          simp only [fillT, Act.put, List.setIfInBounds_toArray, List.set_cons_zero, List.set_cons_succ] at hK ⊢
          have hx := hv.f3 (haft ⟨3, .data⟩ (by simp) (by decide))
          have hb := hv.a2 hi
          have z1 := hb.cell
          have z2 := hb.frozen
          have hb2 : Boxed (U.setCell ⟨b2, 0, none⟩ (.int .i64 (cd : Nat))) b2 30 (.int .i64 (cd : Nat)) := heap_setCell_same U b2 0 _ 30 _ hb
          have hkp := kept7_set (z := (.int .i64 (cd : Nat))) hv.kp (by omega) (by omega) (by omega) hb (by decide) (by decide)
          rw [hx] at hK ⊢
          have HV := Lib.hid hv
          clear hv hb
          go_wp2_with fail
          exact hK undef _ ⟨HV.out.f0, HV.out.f1, HV.out.f2, HV.out.f3, (fun h => (HV.out.a0 h).other (by omega) _), (fun h => (HV.out.a1 h).other (by omega) _), (fun h => (by cases h)), (fun h => (HV.out.d0 h).other (by omega) _), (fun h => (HV.out.d1 h).other (by omega) _), (fun _ => hb2), (HV.out.c3.other (by omega) _), (HV.out.c4.other (by omega) _), (HV.out.cp.other (by omega) _), hkp⟩
      · intro dn us U hdn hv
        have HF : ownPostG W0.heap.size (KpS s b5) (IScan w s b1 b2 b3 b4) (fun cc ys W => cc = .ret ∧ XScan w s b1 b2 ys W) (pre ++ [⟨E, A', m', c', off, some cd⟩]) W .ret ⟨#[], []⟩ U :=
          ⟨hv.kp.kf, rfl, ⟨pre, _, cd, _, rfl, rfl, hv.d0 (hdn 4 (by decide)), own_lower hv.kp.row (Nat.le_add_right s 6), hv.d1 (hdn 5 (by decide)), hv.d2 (hdn 6 (by decide)), hv.kp.good⟩, hv.kp.bel⟩
        gi_wp2
        exact HF
  case done =>
    rintro D ys W hD hS hI hK
    obtain ⟨v, hv, hrow⟩ := hI.row
    obtain ⟨Av, cv, rfl, -⟩ := own_shape hrow
    have c0 := hI.r0.cell
    have z0 := hI.r0.frozen
    have c1 := hI.r1.cell
    have z1 := hI.r1.frozen
    have c2 := hI.r2.cell
    have z2 := hI.r2.frozen
    have c3 := hv.cell
    have c4 := hI.r4.cell
    have d01 : ¬ s = b1 := by omega
    have d02 : ¬ s = b2 := by omega
    have d03 : ¬ s = b3 := by omega
    have d04 : ¬ s = b4 := by omega
    have d12 : ¬ b1 = b2 := by omega
    have d13 : ¬ b1 = b3 := by omega
    have d14 : ¬ b1 = b4 := by omega
    have d23 : ¬ b2 = b3 := by omega
    have d24 : ¬ b2 = b4 := by omega
    have HV := Lib.hid hv
    have HR := Lib.hid (own_lower hrow (Nat.le_add_right s 6))
    have HI := Lib.hid hI
    gi_wp2
    gi_region
    gi_wp2
    obtain ⟨kk, u0, u1, u2⟩ := set3_facts (v := .slice Av ys.length cv) (lastOff ys) 0 (⟨HR.out, HI.out.bel, HI.out.good, hK⟩ : Keep4 w s D ys _ W) (by omega) (by omega) (by omega) HI.out.r0 HI.out.r1 HI.out.r2
    exact scan_ret (cd := 0) hs0 (by omega) rfl rfl rfl kk.df u0 u1 u2 kk.row (drew_of kk.bel) (good_drew kk.good) rfl (.inl ⟨rfl, hS⟩)
  case stop =>
    rintro D cc pre W hD hS ⟨rfl, hX⟩ hK
    obtain ⟨⟨ys, x, cd, v, rfl, hx, k0, hrow, k1, k2, hgood⟩, hbel⟩ := hX
    obtain ⟨Av, cv, rfl, -⟩ := own_shape hrow
    gi_wp2
    refine scan_ret hs0 (by omega) rfl rfl rfl hK k0 k1 k2 hrow hbel hgood rfl (.inr ?_)
    obtain ⟨t, ht⟩ := hS
    have ht2 : recs (n + 1) 0 xs = ys.map Rec.key ++ (x.E, x.off, some cd) :: t := by rw [← ht, List.map_append, List.append_assoc, ← hx]; rfl
    obtain ⟨e1, e2⟩ := recs_err _ _ _ _ _ _ _ _ ht2
    exact ⟨x.off, by rw [ht2, e1, e2]⟩
end Go.Proofs.YtcohgkiloaapcaaDoor

/- The law LedgerIndependence, walked: what its second statement leaves. PRINTED BY gen_ind.py. -/
import Derived.Test.YtcohgkiloaapcaaDoorP0
import Derived.Test.YtcohgkiloaapcaaDoorR4
import Derived.Deep.Upon
import Derived.Test.YtcohgkiloaapcaaDoorR5
namespace Go.Proofs.YtcohgkiloaapcaaDoor
open Go.RowKit

theorem cf12i (args : Array Value) (w : World) : (callFunc 12 args).run Tryd.prog w = .ok (.enter 12 args) w := cf_enter Tryd.func12 (by kernel_rfl) rfl args w
theorem cf25 (args : Array Value) (w : World) : (callFunc 25 args).run Tryd.prog w = .ok (.enter 25 args) w := cf_enter Tryd.func25 (by kernel_rfl) rfl args w
/-- An entry that holds nothing yet. -/
def zeroE : Obj := .cells #[.int .i64 0, .string ByteArray.empty, .slice none 0 0] 25
theorem ex_alloc25 {ρ : Operand → Value} {o : Oper} {W : World} (ho : o.op = .alloc 25) : (execOp ρ o).run Tryd.prog W = .ok (.value (.pointer (some ⟨W.heap.size, 0, none⟩))) (W.alloc zeroE) := by
  unfold execOp
  simp only [ho]
  kernel_rfl
theorem zero_cell {W : World} {b off : Nat} {u : Value} (hz : W.heap[b]? = some zeroE) (h : W.cell? ⟨b, off, none⟩ = some u) : (off = 0 ∧ u = .int .i64 0) ∨ u = .string ByteArray.empty ∨ u = .slice none 0 0 := by
  unfold zeroE at hz
  have hc : W.cell? ⟨b, off, none⟩ = #[Value.int .i64 0, .string ByteArray.empty, .slice none 0 0][off]? := cell_of_row W b off _ 25 (0, 0) hz
  rw [hc] at h
  match off with
  | 0 => exact .inl ⟨rfl, by simpa using h.symm⟩
  | 1 => exact .inr (.inl (by simpa using h.symm))
  | 2 => exact .inr (.inr (by simpa using h.symm))
  | k + 3 => simp at h
/-- A store to such an entry leaves bytes as they were .. -/
theorem Bs.stored {W : World} {A : Option Addr} {n c b : Nat} {xs : List UInt8} (h : Bs W A n c xs) (hz : W.heap[b]? = some zeroE) (vs : List Value) : Bs (W.setCells b 0 vs) A n c xs := by
  refine ⟨h.len, h.le, h.max, fun hp => ?_⟩
  obtain ⟨g, o, e, hc⟩ := h.rd hp
  refine ⟨g, o, e, fun j u hj => ?_⟩
  rw [World.cell?_setCells_out b vs 0 W ⟨g, o + j, none⟩ (fun e' _ => ?_)]
  · exact hc j u hj
  · exfalso
    have hu := hc j u hj
    obtain rfl : g = b := e'
    have hj2 := (List.getElem?_eq_some_iff.1 hj).1
    rw [bys_length] at hj2
    rw [bys_get xs j hj2] at hj
    have hu2 := Option.some.inj hj
    rcases zero_cell hz hu with ⟨_, h2⟩ | h2 | h2 <;> rw [h2] at hu2 <;> cases hu2
/-- .. and entries that may be encoded. -/
theorem Es.stored {W : World} {A : Option Addr} {n c b : Nat} {ys : List Rec} (h : Es W A n c ys) (hv : ∀ y, y ∈ ys → VE y.E) (hz : W.heap[b]? = some zeroE) (vs : List Value) : Es (W.setCells b 0 vs) A n c ys := by
  refine ⟨h.len, h.le, h.max, fun hp => ?_, fun y hy => (h.bd y hy).stored hz vs⟩
  obtain ⟨g, o, e, hc⟩ := h.rd hp
  refine ⟨g, o, e, fun j u hj => ?_⟩
  rw [World.cell?_setCells_out b vs 0 W ⟨g, o + j, none⟩ (fun e' _ => ?_)]
  · exact hc j u hj
  · exfalso
    obtain rfl : g = b := e'
    rw [rowsOf_length] at hp
    have hn : 0 < ys.length := by omega
    have h0 := rowsOf_get ys 0 hn 0 (by omega)
    have hu := hc (3 * 0 + 0) ((newE ys[0])[0]'(by simp [newE])) (by rw [h0]; simp)
    have hk := hv ys[0] (List.getElem_mem _)
    unfold VE vldE at hk
    simp only [decide_eq_true_eq] at hk
    rcases zero_cell hz hu with ⟨_, h2⟩ | h2 | h2
    · simp only [newE, List.getElem_cons_zero, Value.int.injEq, true_and] at h2
      omega
    · cases h2
    · cases h2
theorem stored_in (W : World) (b : Nat) (cs : List Value) (hth : W.there b 0 3) (j : Nat) (u : Value) (hj : cs[j]? = some u) (hl : cs.length = 3 := by rfl) : (W.setCells b 0 cs).cell? ⟨b, 0 + j, none⟩ = some u := by
  have hjl := (List.getElem?_eq_some_iff.1 hj).1
  have h := World.cell?_setCells_in b cs 0 W (fun t ht => (hth t (by omega)).1) j hjl
  rw [h]
  exact (List.getElem?_eq_getElem hjl).symm.trans hj
theorem mk4096 (W : World) : ∃ W', (Instr.makeSlice 22 (.int .i64 0) (.int .i64 4096)).run Tryd.prog W = .ok (.slice (some ⟨W.heap.size, 0, none⟩) 0 4096) W' ∧ Below W.heap.size W W' := by
  obtain ⟨i, hi0, hz0, hs0, hb0⟩ := info_parts info5
  have hr := run_make (P := Tryd.prog) W 22 5 i (.int .u8 0) Tryd.underlying22 hi0 hz0 .i64 .i64 0 4096 (by decide) (by decide) (by rw [hb0]; decide) (by decide)
  exact ⟨_, hr, below_al W _⟩
theorem bsE0 (W : World) : (Instr.buildSlice 23 0 #[]).run Tryd.prog W = .ok (.slice (some ⟨W.heap.size, 0, none⟩) 0 0) (W.alloc (.cells #[] 25)) := by kernel_rfl
theorem bsE1 (k : Int) (s : ByteArray) (A : Option Addr) (m c : Nat) (W : World) : (Instr.buildSlice 23 1 #[(0, .agg #[.int .i64 k, .string s, .slice A m c])]).run Tryd.prog W = .ok (.slice (some ⟨W.heap.size, 0, none⟩) 1 1) (W.alloc (.cells #[.int .i64 k, .string s, .slice A m c] 25)) := by kernel_rfl
/-- Entries appended to a new row that holds none: memory is only added to. -/
theorem append_first (W : World) (s B m c : Nat) (A : Option Addr) (ys : List Rec) (hown : W.ownsRow s 25 3 (.slice (some ⟨B, 0, none⟩) 0 0) 0 []) (hs : s ≤ W.heap.size) (hE : Es W A m c ys) (hm : m ≤ 1000) :
    ∃ v' w', (Builtin.append_ #[23, 23] 23 #[.slice (some ⟨B, 0, none⟩) 0 0, .slice A m c]).run Tryd.prog W = .ok v' w' ∧ w'.ownsRow s 25 3 v' m (rowsOf ys) ∧ Below W.heap.size W w' := by
  have hl : (rowsOf ys).length = m * 3 := by rw [rowsOf_length, hE.len]
  by_cases h0 : m = 0
  · subst h0
    have hy : ys = [] := List.eq_nil_of_length_eq_zero hE.len
    subst hy
    obtain ⟨i, hi0, _, hz1, _⟩ := info_parts infoE25
    refine ⟨_, W, ?_, hown, Below.refl _ _⟩
    cases A <;> simp [Builtin.append_, run_underlying Tryd.underlying23, sizeOf, typeInfo, hi0, Builtin.lenOf, Builtin.firstCells, loadCells, loadCellsFrom, storeCells]
  · obtain ⟨g, o, rfl, _⟩ := es_range hE (by omega)
    obtain ⟨v', w', hr, h2, h3⟩ := run_app_full (P := Tryd.prog) W 23 23 25 _ 3 48 Tryd.underlying23 infoE25 rfl (by decide) (by decide) (some ⟨B, 0, none⟩) 0 [] rfl (Rd.nil _ _) ⟨g, o, none⟩ m c (rowsOf ys) hl hE.rd (rowsOf_one _) (by omega) (by omega)
    refine ⟨v', w', hr, ?_, (Below.refl _ _).grown h3 (Nat.le_refl _) (fun k hk => by cases hk)⟩
    have := own_lower h2 hs
    simpa using this
theorem cf19 (args : Array Value) (w : World) : (callFunc 19 args).run Tryd.prog w = .ok (.enter 19 args) w := cf_enter Tryd.func19 (by kernel_rfl) rfl args w
theorem below_cellsI {B b : Nat} {a : World} (hb : B ≤ b) : ∀ (vs : List Value) (o : Nat) (w : World), Below B a w → Below B a (w.setCells b o vs)
  | [], _, _, h => h
  | v :: vs, o, w, h => below_cellsI hb vs (o + 1) _ (h.setCell (p := ⟨b, o, none⟩) hb v)
/-- What the last statement yields. -/
def inD : List Nat := [74, 75, 76, 77, 78, 79, 80, 81, 82, 83, 84, 85, 86, 87, 88, 89, 90, 91, 92, 93, 94, 95, 96, 97, 98, 99, 6]
def inPhi (A1 A3 A5 A8 A9 : Option Addr) (m c1 n3 c3 c5 n8 c8 n9 c9 b9 b10 : Nat) (ys : List Rec) (y1 y2 : Rec) (W9 : World) (i : Nat) (v : Value) (W : World) : Prop := (List.getD (
  (fun v _ => v = .slice A3 n3 c3) ::
  (fun v _ => v = .slice A5 n3 c5) ::
  (fun v _ => v = .bool true) ::
  (fun v _ => v = .bool true) ::
  (fun v _ => v = .slice A8 n8 c8) ::
  (fun v W => ∃ B, v = .slice (some ⟨B, 0, none⟩) 0 0 ∧ W.ownsRow W9.heap.size 25 3 (.slice (some ⟨B, 0, none⟩) 0 0) 0 []) ::
  (fun v _ => v = .slice A1 m c1) ::
  (fun v W => ∃ B d, v = .slice B m d ∧ W.ownsRow W9.heap.size 25 3 (.slice B m d) m (rowsOf ys)) ::
  (fun v _ => v = .agg #[.int .i64 y1.E.kind, .string (strOf y1.E.key), .slice y1.A y1.m y1.c]) ::
  (fun v W => ∃ B, v = .slice (some ⟨B, 0, none⟩) 1 1 ∧ Rd W (some ⟨B, 0, none⟩) (newE y1)) ::
  (fun v W => ∃ B d, v = .slice B (m + 1) d ∧ W.ownsRow W9.heap.size 25 3 (.slice B (m + 1) d) (m + 1) (rowsOf (ys ++ [y1]))) ::
  (fun v _ => v = .bool true) ::
  (fun v _ => v = .bool true) ::
  (fun v _ => v = .bool true) ::
  (fun v _ => v = .slice A9 n9 c9) ::
  (fun v W => ∃ B, v = .slice (some ⟨B, 0, none⟩) 0 0 ∧ W.ownsRow W9.heap.size 25 3 (.slice (some ⟨B, 0, none⟩) 0 0) 0 []) ::
  (fun v _ => v = .slice A1 m c1) ::
  (fun v W => ∃ B d, v = .slice B m d ∧ W.ownsRow W9.heap.size 25 3 (.slice B m d) m (rowsOf ys)) ::
  (fun v _ => v = .agg #[.int .i64 y2.E.kind, .string (strOf y2.E.key), .slice y2.A y2.m y2.c]) ::
  (fun v W => ∃ B, v = .slice (some ⟨B, 0, none⟩) 1 1 ∧ Rd W (some ⟨B, 0, none⟩) (newE y2)) ::
  (fun v W => ∃ B d, v = .slice B (m + 1) d ∧ W.ownsRow W9.heap.size 25 3 (.slice B (m + 1) d) (m + 1) (rowsOf (ys ++ [y2]))) ::
  (fun v _ => v = .bool true) ::
  (fun v _ => v = .bool true) ::
  (fun v _ => v = .bool true) ::
  (fun v _ => v = .bool true) ::
  (fun v _ => v = .bool true) ::
  (fun v _ => v = .bool true) ::
  []) i (fun _ _ => True)) v W
/-- What the head of the second statement yields. -/
def indD : List Nat := [25, 26, 27, 28, 29, 30, 9, 10]
def indPhi (A : Option Addr) (n c s : Nat) (ya yb : Rec) (i : Nat) (v : Value) (W : World) : Prop := (List.getD [
  (fun v _ => v = .slice A n c),
  (fun v W => ∃ A1 m c1 ys, v = .slice A1 m c1 ∧ Es W A1 m c1 ys ∧ m ≤ 5 ∧ ∀ y, y ∈ ys → VE y.E),
  (fun v _ => v = .agg #[.int .i64 ya.E.kind, .string (strOf ya.E.key), .slice ya.A ya.m ya.c]),
  (fun v W => ∃ y : Rec, v = .agg (newE y).toArray ∧ VE y.E ∧ Bs W y.A y.m y.c y.E.body),
  (fun v _ => v = .agg #[.int .i64 yb.E.kind, .string (strOf yb.E.key), .slice yb.A yb.m yb.c]),
  (fun v W => ∃ y : Rec, v = .agg (newE y).toArray ∧ VE y.E ∧ Bs W y.A y.m y.c y.E.body),
  (fun v W => ∃ b, v = .pointer (some ⟨b, 0, none⟩) ∧ s ≤ b ∧ W.heap[b]? = some zeroE),
  (fun v W => ∃ b, v = .pointer (some ⟨b, 0, none⟩) ∧ s ≤ b ∧ W.heap[b]? = some zeroE)] i (fun _ _ => False)) v W

set_option maxRecDepth 20000 in
set_option maxHeartbeats 4000000 in
theorem law_Independence (A : Option Addr) (n c : Nat) (xs : List Rec) (ya yb : Rec) (w : World) (hE : EsIn w A n c xs) (hya : Bs w ya.A ya.m ya.c ya.E.body) (hka : ya.E.key.length ≤ 140737488355328) (hma : ya.m ≤ 140737488355328)
    (hyb : Bs w yb.A yb.m yb.c yb.E.body) (hkb : yb.E.key.length ≤ 140737488355328) (hmb : yb.m ≤ 140737488355328) (hG : GOk w) :
    Calls Tryd.prog 10 #[.slice A n c, .agg (newE ya).toArray, .agg (newE yb).toArray] w (LawQ w) := by
  have hBa : Below w.heap.size w ((w.alloc (.cells #[.int .i64 ya.E.kind, .string (strOf ya.E.key), .slice ya.A ya.m ya.c] 25)).alloc (.cells #[.int .i64 yb.E.kind, .string (strOf yb.E.key), .slice yb.A yb.m yb.c] 25)) := below_then (below_al w _) (below_al _ _)
  have h11 := sanity_ok _ (hG.kept hBa)
  have ha0 : ((w.alloc (.cells #[.int .i64 ya.E.kind, .string (strOf ya.E.key), .slice ya.A ya.m ya.c] 25)).alloc (.cells #[.int .i64 yb.E.kind, .string (strOf yb.E.key), .slice yb.A yb.m yb.c] 25)).heap[w.heap.size]? = some (.cells #[.int .i64 ya.E.kind, .string (strOf ya.E.key), .slice ya.A ya.m ya.c] 25) := by
    rw [(below_al _ _).block w.heap.size (by simp)]
    exact heap_alloc_new w _
  have hb0 : ((w.alloc (.cells #[.int .i64 ya.E.kind, .string (strOf ya.E.key), .slice ya.A ya.m ya.c] 25)).alloc (.cells #[.int .i64 yb.E.kind, .string (strOf yb.E.key), .slice yb.A yb.m yb.c] 25)).heap[w.heap.size + 1]? = some (.cells #[.int .i64 yb.E.kind, .string (strOf yb.E.key), .slice yb.A yb.m yb.c] 25) := al_last _ _ (by simp)
  unfold newE
  have HBa := Lib.hid hBa
  have HE := Lib.hid hE
  have Hya := Lib.hid hya
  have Hyb := Lib.hid hyb
  have Ha0 := Lib.hid ha0
  have Hb0 := Lib.hid hb0
  clear hE hBa hya hyb ha0 hb0
  go_enter Tryd.func10, Tryd.ntmps10
  go_wp2_with fail
  refine h11.mono ?_
  clear h11
  rintro e w1 ⟨rfl, hB1⟩
  have hB := below_then HBa.out hB1
  have hE := HE.out.below hB
  have hya := Hya.out.below hB
  have hyb := Hyb.out.below hB
  have hcb : ∀ W, Below w1.heap.size w1 W → W.rangeAt w.heap.size 0 (newE ya) ∧ W.rangeAt (w.heap.size + 1) 0 (newE yb) := fun W hW => by
    have h2 := below_then hB1 hW
    exact ⟨World.rangeAt_of_block ((h2.block w.heap.size (by simp; omega)).trans Ha0.out) 0 3, World.rangeAt_of_block ((h2.block (w.heap.size + 1) (by simp)).trans Hb0.out) 0 3⟩
  clear hB1
  go_upto_region 2 with (fail)
  refine wp_region_tail (by kernel_rfl) 8 [6, 7]
    ((25, indD.erase 25, []) :: (26, indD.erase 26, [(0, 25)]) :: (27, indD.erase 27, []) :: (28, indD.erase 28, [(2, 27)]) :: (29, indD.erase 29, []) :: (30, indD.erase 30, [(4, 29)]) :: (9, indD.erase 9, []) :: (10, indD.erase 10, []) :: [])
    (by kernel_rfl) (indPhi A n c w1.heap.size ya yb) (by simp) ⟨?_, ?_, ?_, ?_, ?_, ?_, ?_, ?_, trivial⟩ ?_
  · intro us W hW hE'
    intro K hK
    with_reducible refine stepV0 (.slice A n c) (W) ?_ ?_ ?_
    · rfl
    · exact (ex_move rfl (ev_old (by decide) rfl))
    · exact hK _ _ (Below.refl _ _) (fun W'' h => rfl) (fun h => absurd h (by decide))
  · intro us W hW hE'
    have e0 : us 25 = .slice A n c := hE'.1
    intro K hK
    with_reducible refine stepC0 (12) (#[.slice A n c, .int .i64 5]) ?_ ?_ ?_
    · rfl
    · exact (ex_fn2 rfl rfl (ev_us (N := 100) rfl (by decide) e0) rfl (cf12i _ _))
    · refine Calls.mono (made_in A n c 5 xs W (hE.below (undrew hW)) (by decide)) ?_
      rintro e w2 ⟨A1, m, c1, ys, rfl, hE2, -, -, hm, hgd, hB2⟩
      exact ⟨_, rfl, hK _ _ hB2 (fun W'' h => ⟨A1, m, c1, ys, rfl, hE2.below h, hm, goods_ve hgd⟩) (fun h => absurd h (by decide))⟩
  · intro us W hW hE'
    intro K hK
    with_reducible refine stepV0 (.agg #[.int .i64 ya.E.kind, .string (strOf ya.E.key), .slice ya.A ya.m ya.c]) (W) ?_ ?_ ?_
    · rfl
    · exact ex_load rfl (ev_old (by decide) rfl) (load25 _ _ ya W (hcb W (undrew hW)).1)
    · exact hK _ _ (Below.refl _ _) (fun W'' h => rfl) (fun h => absurd h (by decide))
  · intro us W hW hE'
    have e0 : us 27 = .agg #[.int .i64 ya.E.kind, .string (strOf ya.E.key), .slice ya.A ya.m ya.c] := hE'.1
    intro K hK
    with_reducible refine stepC0 (25) (#[.agg #[.int .i64 ya.E.kind, .string (strOf ya.E.key), .slice ya.A ya.m ya.c]]) ?_ ?_ ?_
    · rfl
    · exact (ex_fn1 rfl rfl (ev_us (N := 100) rfl (by decide) e0) (cf25 _ _))
    · have hyW := hya.below (undrew hW)
      refine Calls.mono (madeEntry ya.E.kind (strOf ya.E.key) ya.A ya.m ya.c W hyW.le (by rw [strOf_size]; exact hka) hma ya.E.body hyW) ?_
      rintro e w2 ⟨y, rfl, hvy, hby, -, hB2⟩
      exact ⟨_, rfl, hK _ _ hB2 (fun W'' h => ⟨y, rfl, hvy, (hby W hyW).below (hB2.trans (h.mono hB2.size))⟩) (fun h => absurd h (by decide))⟩
  · intro us W hW hE'
    intro K hK
    with_reducible refine stepV0 (.agg #[.int .i64 yb.E.kind, .string (strOf yb.E.key), .slice yb.A yb.m yb.c]) (W) ?_ ?_ ?_
    · rfl
    · exact ex_load rfl (ev_old (by decide) rfl) (load25 _ _ yb W (hcb W (undrew hW)).2)
    · exact hK _ _ (Below.refl _ _) (fun W'' h => rfl) (fun h => absurd h (by decide))
  · intro us W hW hE'
    have e0 : us 29 = .agg #[.int .i64 yb.E.kind, .string (strOf yb.E.key), .slice yb.A yb.m yb.c] := hE'.1
    intro K hK
    with_reducible refine stepC0 (25) (#[.agg #[.int .i64 yb.E.kind, .string (strOf yb.E.key), .slice yb.A yb.m yb.c]]) ?_ ?_ ?_
    · rfl
    · exact (ex_fn1 rfl rfl (ev_us (N := 100) rfl (by decide) e0) (cf25 _ _))
    · have hyW := hyb.below (undrew hW)
      refine Calls.mono (madeEntry yb.E.kind (strOf yb.E.key) yb.A yb.m yb.c W hyW.le (by rw [strOf_size]; exact hkb) hmb yb.E.body hyW) ?_
      rintro e w2 ⟨y, rfl, hvy, hby, -, hB2⟩
      exact ⟨_, rfl, hK _ _ hB2 (fun W'' h => ⟨y, rfl, hvy, (hby W hyW).below (hB2.trans (h.mono hB2.size))⟩) (fun h => absurd h (by decide))⟩
  · intro us W hW hE'
    intro K hK
    with_reducible refine stepV0 (.pointer (some ⟨W.heap.size, 0, none⟩)) (W.alloc zeroE) ?_ ?_ ?_
    · rfl
    · exact ex_alloc25 rfl
    · exact hK _ _ (below_al W _) (fun W'' h => ⟨_, rfl, hW.size, (h.block W.heap.size (by simp)).trans (heap_alloc_new W zeroE)⟩) (fun h => ⟨Nat.le_refl _, by simp [blkOf]⟩)
  · intro us W hW hE'
    intro K hK
    with_reducible refine stepV0 (.pointer (some ⟨W.heap.size, 0, none⟩)) (W.alloc zeroE) ?_ ?_ ?_
    · rfl
    · exact ex_alloc25 rfl
    · exact hK _ _ (below_al W _) (fun W'' h => ⟨_, rfl, hW.size, (h.block W.heap.size (by simp)).trans (heap_alloc_new W zeroE)⟩) (fun h => ⟨Nat.le_refl _, by simp [blkOf]⟩)
  · intro us W hW hF hpair
    obtain ⟨-, ⟨A1, m, c1, ys, e26, hEs, hm, hve⟩, -, ⟨y1, e28, hv1, hb1⟩, -, ⟨y2, e30, hv2, hb2⟩, ⟨b9, e9, hs9, hz9⟩, ⟨b10, e10, hs10, hz10⟩, -⟩ := hF
    have hne : b9 ≠ b10 := by
      have h := hpair 6 7 9 (indD.erase 9) [] 10 (indD.erase 10) [] (by decide) (by decide) (by decide) rfl rfl
      rw [e9, e10] at h
      exact h
    have hBW := undrew hW
    clear hpair hW
    simp only [List.map_cons, List.map_nil, indD, List.erase_cons, fillT, Act.put, List.setIfInBounds_toArray, List.set_cons_zero, List.set_cons_succ]
    rw [e26, e28, e30, e9, e10]
    clear e26 e28 e30 e9 e10
    have hth9 := there_block (show W.heap[b9]? = some (.cells #[.int .i64 0, .string ByteArray.empty, .slice none 0 0] 25 (0, 0)) from hz9)
    have hz10' : (W.setCells b9 0 (newE y1)).heap[b10]? = some zeroE := (World.heap_setCells_other W b9 0 (newE y1) (Array.getElem?_eq_some_iff.1 hz10).1 (Ne.symm hne)).trans hz10
    have hth10 := there_block (show (W.setCells b9 0 (newE y1)).heap[b10]? = some (.cells #[.int .i64 0, .string ByteArray.empty, .slice none 0 0] 25 (0, 0)) from hz10')
    have hEs := (hEs.stored hve hz9 (newE y1)).stored hve hz10' (newE y2)
    have hb1 := (hb1.stored hz9 (newE y1)).stored hz10' (newE y2)
    have hb2 := (hb2.stored hz9 (newE y1)).stored hz10' (newE y2)
    have hr9 : ((W.setCells b9 0 (newE y1)).setCells b10 0 (newE y2)).rangeAt b9 0 (newE y1) := fun j u hj => by
      rw [World.cell?_setCells_out b10 (newE y2) 0 _ ⟨b9, 0 + j, none⟩ (fun e _ => absurd e hne)]
      exact stored_in W b9 (newE y1) hth9 j u hj
    have hr10 : ((W.setCells b9 0 (newE y1)).setCells b10 0 (newE y2)).rangeAt b10 0 (newE y2) := fun j u hj => stored_in _ b10 (newE y2) hth10 j u hj
    have hBW := below_cellsI hs10 (newE y2) 0 _ (below_cellsI hs9 (newE y1) 0 _ hBW)
    obtain ⟨W2, hW2⟩ : ∃ W2, W2 = (W.setCells b9 0 (newE y1)).setCells b10 0 (newE y2) := ⟨_, rfl⟩
    rw [← hW2] at hEs hb1 hb2 hr9 hr10 hBW
    have HW2 := Lib.hid hW2
    have HEs := Lib.hid hEs
    have Hb1 := Lib.hid hb1
    have Hb2 := Lib.hid hb2
    clear hEs hb1 hb2 hW2 hz9 hz10 hz10'
    simp only [List.drop_succ_cons, List.drop_zero]
    go_upto_region 3 with (first | (refine wpList_store_mid rfl 25 _ _ rfl b9 0 (newE y1).toArray rfl rfl hth9 info25 (one3 _ _ _) ?_) | (refine wpList_store_mid rfl 25 _ _ rfl b10 0 (newE y2).toArray rfl rfl hth10 info25 (one3 _ _ _) ?_))
    simp only [Act.put]
    rw [← HW2.out]
    obtain ⟨W3, hmk, hB3⟩ := mk4096 W2
    have HBW := Lib.hid (below_then hB hBW)
    have hml := HEs.out.len
    have hlb := log_le hve hml hm
    have h24 := build_ok (some ⟨W2.heap.size, 0, none⟩) 0 4096 [] A1 m c1 ys W3 (Bs.nil _ _ _ (by decide)) (HEs.out.below hB3) hve (by omega) _ (List.nil_append _).symm (by omega)
    have Hml := Lib.hid hml
    have HB0 := Lib.hid hB
    have HE0 := Lib.hid hE
    clear hth9 hth10 hBW hml hcb hE hya hyb hB
    go_wp2_with fail
    refine h24.mono ?_
    clear h24 hmk
    rintro e W4 ⟨A3, n3, c3, rfl, hn3, hb3, hB4⟩
    have hB24 := below_then hB3 hB4
    have hn3b : n3 ≤ 126048 := by have := hn3.out; omega
    obtain ⟨ls, hls0⟩ : ∃ ls, ls = logB (ys.map (·.E)) := ⟨_, rfl⟩
    rw [← hls0] at hn3 hb3
    have HLS := Lib.hid hls0
    have hE4 := HEs.out.below hB24
    have hb1 := Hb1.out.below hB24
    have hb2 := Hb2.out.below hB24
    have hr9 := range_below hr9 hB24
    have hr10 := range_below hr10 hB24
    have hBB := below_then HBW.out hB24
    have HVE := Lib.hid hve
    have hB0 := below_al W4 (.cells #[] 5)
    have hoE := own_empty W4 5 1
    clear hls0 hB3 hB4 hB24 hlb hve HEs Hb1 Hb2 HW2
    go_upto_region 4 with (fail)
    go_wp2_with (at_builtin; refine wpList_of_append rfl _ _ 22 rfl rfl rfl (run_own W4 _ 22 22 5 (.int .u8 0) 1 1 Tryd.underlying22 info5 rfl (by decide) (by decide) _ _ _ hoE hB0 A3 n3 c3 (bys ls) (by rw [bys_length, hn3.out, Nat.mul_one]) (hb3.rd.below hB0) (bys_one _) (by omega)) ?_)
    intro v5 W5 hown5 hB5
    have hown5 : W5.ownsRow W4.heap.size 5 1 v5 n3 (bys ls) := by simpa using hown5
    obtain ⟨A5, c5, rfl, -, -⟩ := own_shape hown5
    have hE4 := hE4.below hB5
    have hb1 := hb1.below hB5
    have hb2 := hb2.below hB5
    have hb3 := hb3.below hB5
    have hr9 := range_below hr9 hB5
    have hr10 := range_below hr10 hB5
    have hBB := below_then hBB hB5
    have hcp := Bs.own hown5
    clear hB0 hoE hown5 hB5
    unfold newE at hr9 hr10
    have hz1 : logB ((ys ++ [y1]).map (·.E)) = ls ++ recB (encEn y1.E) := by rw [List.map_append, logB_append, ← HLS.out]; exact congrArg _ (logB_one _)
    have hz2 : logB ((ys ++ [y2]).map (·.E)) = ls ++ recB (encEn y2.E) := by rw [List.map_append, logB_append, ← HLS.out]; exact congrArg _ (logB_one _)
    have hve1 : ∀ y, y ∈ ys ++ [y1] → VE y.E := fun y h => by
      rcases List.mem_append.1 h with h | h
      · exact HVE.out y h
      · rw [List.mem_singleton.1 h]; exact hv1
    have hve2 : ∀ y, y ∈ ys ++ [y2] → VE y.E := fun y h => by
      rcases List.mem_append.1 h with h | h
      · exact HVE.out y h
      · rw [List.mem_singleton.1 h]; exact hv2
    have hl1 := log_le (m := m + 1) (b := 6) hve1 (by rw [List.length_append, Hml.out]; rfl) (by omega)
    have hl2 := log_le (m := m + 1) (b := 6) hve2 (by rw [List.length_append, Hml.out]; rfl) (by omega)
    have h14a := append_rec A3 n3 c3 ls y1 W5 hb3 (by omega) hb1 hv1 _ hz1
    have HZ1 := Lib.hid hz1
    have HZ2 := Lib.hid hz2
    have HV1 := Lib.hid hve1
    have HV2 := Lib.hid hve2
    clear hz1 hz2 hve1 hve2
    go_wp2_with ((with_reducible refine load3o b9 0 y1.E.kind (strOf y1.E.key) y1.A y1.m y1.c ?_ ?_ ?_); exact rfl; exact hr9)
    refine h14a.mono ?_
    clear h14a
    rintro e W6 ⟨A6, n6, c6, rfl, hL6, hB6, ho6⟩
    have hb6 := Bs.own ho6
    have hE4 := hE4.below hB6
    have hb1 := hb1.below hB6
    have hb2 := hb2.below hB6
    have hb3 := hb3.below hB6
    have hcp := hcp.below hB6
    have hr9 := range_below hr9 hB6
    have hr10 := range_below hr10 hB6
    have hBB := below_then hBB hB6
    have h14b := append_rec A3 n3 c3 ls y2 W6 hb3 (by omega) hb2 hv2 _ HZ2.out
    clear hB6 ho6
    go_wp2_with ((with_reducible refine load3o b10 0 y2.E.kind (strOf y2.E.key) y2.A y2.m y2.c ?_ ?_ ?_); exact rfl; exact hr10)
    refine h14b.mono ?_
    clear h14b
    rintro e W7 ⟨A7, n7, c7, rfl, hL7, hB7, ho7⟩
    have hb7 := Bs.own ho7
    have hb6 := hb6.below hB7
    have hE4 := hE4.below hB7
    have hb1 := hb1.below hB7
    have hb2 := hb2.below hB7
    have hb3 := hb3.below hB7
    have hcp := hcp.below hB7
    have hr9 := range_below hr9 hB7
    have hr10 := range_below hr10 hB7
    have hBB := below_then hBB hB7
    have h16a := scan_ok A6 n6 c6 _ W7 hb6 (by have := hL6.out; omega) (hG.kept hBB)
    clear hB7 ho7
    go_wp2_with fail
    refine h16a.mono ?_
    clear h16a
    rintro e W8 ⟨A8, n8, c8, z1, of1, cd1, rfl, hS1, hz1, -, hB8⟩
    have hb7 := hb7.below hB8
    have hE4 := hE4.below hB8
    have hb1 := hb1.below hB8
    have hb2 := hb2.below hB8
    have hb3 := hb3.below hB8
    have hcp := hcp.below hB8
    have hr9 := range_below hr9 hB8
    have hr10 := range_below hr10 hB8
    have hBB := below_then hBB hB8
    have h16b := scan_ok A7 n7 c7 _ W8 hb7 (by have := hL7.out; omega) (hG.kept hBB)
    have hM1 : z1.map (·.E) = (ys ++ [y1]).map (·.E) := by
      have h := hS1.out
      rw [scan_log_only _ (ves_of HV1.out)] at h
      exact (congrArg Prod.fst h).symm
    have HM1 := Lib.hid hM1
    clear hB8 hS1 hM1
    go_wp2_with fail
    refine h16b.mono ?_
    clear h16b
    rintro e W9 ⟨A9, n9, c9, z2, of2, cd2, rfl, hS2, hz2, -, hB9⟩
    have hz1 := hz1.below hB9
    have hE4 := hE4.below hB9
    have hb1 := hb1.below hB9
    have hb2 := hb2.below hB9
    have hb3 := hb3.below hB9
    have hcp := hcp.below hB9
    have hr9 := range_below hr9 hB9
    have hr10 := range_below hr10 hB9
    have hBB := below_then hBB hB9
    have hM2 : z2.map (·.E) = (ys ++ [y2]).map (·.E) := by
      have h := hS2.out
      rw [scan_log_only _ (ves_of HV2.out)] at h
      exact (congrArg Prod.fst h).symm
    have HM2 := Lib.hid hM2
    clear hB9 hS2 hM2
    go_upto_region 11 with (fail)
    have hbd1 : ∀ y, y ∈ ys ++ [y1] → Bs W9 y.A y.m y.c y.E.body := fun y h => by
      rcases List.mem_append.1 h with h | h
      · exact hE4.bd y h
      · rw [List.mem_singleton.1 h]; exact hb1
    have hbd2 : ∀ y, y ∈ ys ++ [y2] → Bs W9 y.A y.m y.c y.E.body := fun y h => by
      rcases List.mem_append.1 h with h | h
      · exact hE4.bd y h
      · rw [List.mem_singleton.1 h]; exact hb2
    have hn8 : n8 = m + 1 := by
      have h := congrArg List.length HM1.out
      rw [List.length_map, List.length_map, List.length_append, Hml.out, hz1.len] at h
      exact h
    have hn9 : n9 = m + 1 := by
      have h := congrArg List.length HM2.out
      rw [List.length_map, List.length_map, List.length_append, Hml.out, hz2.len] at h
      exact h
    refine wp_region_rows (by kernel_rfl) ((inD.erase 74) :: (inD.erase 75) :: (inD.erase 76) :: (inD.erase 77) :: (inD.erase 78) :: (inD.erase 79) :: (inD.erase 80) :: (inD.erase 81) :: (inD.erase 82) :: (inD.erase 83) :: (inD.erase 84) :: (inD.erase 85) :: (inD.erase 86) :: (inD.erase 87) :: (inD.erase 88) :: (inD.erase 89) :: (inD.erase 90) :: (inD.erase 91) :: (inD.erase 92) :: (inD.erase 93) :: (inD.erase 94) :: (inD.erase 95) :: (inD.erase 96) :: (inD.erase 97) :: (inD.erase 98) :: (inD.erase 99) :: (inD.erase 6) :: []) inD 100 rfl (by kernel_rfl)
      (⟨74, [], [2], [], 0⟩ :: ⟨75, [], [2], [], 0⟩ :: ⟨76, [(0, 74), (1, 75)], [3], [0, 1], 0⟩ :: ⟨77, [(2, 76)], [4, 5, 6, 7, 8, 9, 10, 11, 12], [0, 1, 2], 0⟩ :: ⟨78, [(3, 77)], [11], [0, 1, 2, 3], 0⟩ :: ⟨79, [(3, 77)], [7], [0, 1, 2, 3], 1⟩ :: ⟨80, [(3, 77)], [7], [0, 1, 2, 3], 0⟩ :: ⟨81, [(3, 77), (5, 79), (6, 80)], [10], [0, 1, 2, 3, 5, 6], 1⟩ :: ⟨82, [(3, 77)], [9], [0, 1, 2, 3], 0⟩ :: ⟨83, [(3, 77), (8, 82)], [10], [0, 1, 2, 3, 8], 1⟩ :: ⟨84, [(3, 77), (7, 81), (9, 83)], [11], [0, 1, 2, 3, 5, 6, 7, 8, 9], 2⟩ :: ⟨85, [(3, 77), (4, 78), (10, 84)], [12], [0, 1, 2, 3, 4, 5, 6, 7, 8, 9, 10], 0⟩ :: ⟨86, [(3, 77), (11, 85)], [13], [0, 1, 2, 3, 4, 5, 6, 7, 8, 9, 10, 11], 0⟩ :: ⟨87, [(12, 86)], [14, 15, 16, 17, 18, 19, 20, 21, 22], [0, 1, 2, 3, 4, 5, 6, 7, 8, 9, 10, 11, 12], 0⟩ :: ⟨88, [(13, 87)], [21], [0, 1, 2, 3, 4, 5, 6, 7, 8, 9, 10, 11, 12, 13], 0⟩ :: ⟨89, [(13, 87)], [17], [0, 1, 2, 3, 4, 5, 6, 7, 8, 9, 10, 11, 12, 13], 1⟩ :: ⟨90, [(13, 87)], [17], [0, 1, 2, 3, 4, 5, 6, 7, 8, 9, 10, 11, 12, 13], 0⟩ :: ⟨91, [(13, 87), (15, 89), (16, 90)], [20], [0, 1, 2, 3, 4, 5, 6, 7, 8, 9, 10, 11, 12, 13, 15, 16], 1⟩ :: ⟨92, [(13, 87)], [19], [0, 1, 2, 3, 4, 5, 6, 7, 8, 9, 10, 11, 12, 13], 0⟩ :: ⟨93, [(13, 87), (18, 92)], [20], [0, 1, 2, 3, 4, 5, 6, 7, 8, 9, 10, 11, 12, 13, 18], 1⟩ :: ⟨94, [(13, 87), (17, 91), (19, 93)], [21], [0, 1, 2, 3, 4, 5, 6, 7, 8, 9, 10, 11, 12, 13, 15, 16, 17, 18, 19], 2⟩ :: ⟨95, [(13, 87), (14, 88), (20, 94)], [22], [0, 1, 2, 3, 4, 5, 6, 7, 8, 9, 10, 11, 12, 13, 14, 15, 16, 17, 18, 19, 20], 0⟩ :: ⟨96, [(13, 87), (21, 95)], [23], [0, 1, 2, 3, 4, 5, 6, 7, 8, 9, 10, 11, 12, 13, 14, 15, 16, 17, 18, 19, 20, 21], 0⟩ :: ⟨97, [(22, 96)], [24, 25], [0, 1, 2, 3, 4, 5, 6, 7, 8, 9, 10, 11, 12, 13, 14, 15, 16, 17, 18, 19, 20, 21, 22], 0⟩ :: ⟨98, [(23, 97)], [25], [0, 1, 2, 3, 4, 5, 6, 7, 8, 9, 10, 11, 12, 13, 14, 15, 16, 17, 18, 19, 20, 21, 22, 23], 0⟩ :: ⟨99, [(23, 97), (24, 98)], [26], [0, 1, 2, 3, 4, 5, 6, 7, 8, 9, 10, 11, 12, 13, 14, 15, 16, 17, 18, 19, 20, 21, 22, 23, 24], 0⟩ :: ⟨6, [(25, 99)], [], [0, 1, 2, 3, 4, 5, 6, 7, 8, 9, 10, 11, 12, 13, 14, 15, 16, 17, 18, 19, 20, 21, 22, 23, 24, 25], 0⟩ :: []) (by kernel_rfl)
      (inPhi A1 A3 A5 A8 A9 m c1 n3 c3 c5 n8 c8 n9 c9 b9 b10 ys y1 y2 W9) ?_ ⟨?_, ?_, ?_, ?_, ?_, ?_, ?_, ?_, ?_, ?_, ?_, ?_, ?_, ?_, ?_, ?_, ?_, ?_, ?_, ?_, ?_, ?_, ?_, ?_, ?_, ?_, ?_, trivial⟩ ?_
    · intro j r hr hk v W W' h
      match j, hr with
      | 0, _ => exact h
      | 1, _ => exact h
      | 2, _ => exact h
      | 3, _ => exact h
      | 4, _ => exact h
      | 5, hr => obtain rfl := Option.some.inj hr; cases hk
      | 6, _ => exact h
      | 7, hr => obtain rfl := Option.some.inj hr; cases hk
      | 8, _ => exact h
      | 9, hr => obtain rfl := Option.some.inj hr; cases hk
      | 10, hr => obtain rfl := Option.some.inj hr; cases hk
      | 11, _ => exact h
      | 12, _ => exact h
      | 13, _ => exact h
      | 14, _ => exact h
      | 15, hr => obtain rfl := Option.some.inj hr; cases hk
      | 16, _ => exact h
      | 17, hr => obtain rfl := Option.some.inj hr; cases hk
      | 18, _ => exact h
      | 19, hr => obtain rfl := Option.some.inj hr; cases hk
      | 20, hr => obtain rfl := Option.some.inj hr; cases hk
      | 21, _ => exact h
      | 22, _ => exact h
      | 23, _ => exact h
      | 24, _ => exact h
      | 25, _ => exact h
      | 26, _ => exact h
      | j + 27, hr => simp at hr
    · intro us W hW hE
      intro K hK
      with_reducible refine stepV0 (.slice A3 n3 c3) (W) ?_ ?_ ?_
      · rfl
      · exact (ex_move rfl (ev_old (by decide) rfl))
      · exact hK _ _ (below_then hW (Below.refl _ _)) (fun _ => (Below.refl _ _)) (fun W'' h => rfl)
    · intro us W hW hE
      intro K hK
      with_reducible refine stepV0 (.slice A5 n3 c5) (W) ?_ ?_ ?_
      · rfl
      · exact (ex_move rfl (ev_old (by decide) rfl))
      · exact hK _ _ (below_then hW (Below.refl _ _)) (fun _ => (Below.refl _ _)) (fun W'' h => rfl)
    · intro us W hW hE
      have e0 : us 74 = .slice A3 n3 c3 := hE.1
      have e1 : us 75 = .slice A5 n3 c5 := hE.2.1
      intro K hK
      with_reducible refine stepC0 (18) (#[.slice A3 n3 c3, .slice A5 n3 c5]) ?_ ?_ ?_
      · rfl
      · exact (ex_fn2 rfl rfl (ev_us (N := 100) rfl (by decide) e0) (ev_us (N := 100) rfl (by decide) e1) (cf18 _ _))
      · refine Calls.mono (sameBytes A3 A5 n3 n3 c3 c5 ls ls W (hb3.below (undrew hW)) (hcp.below (undrew hW)) (by omega) true (decide_eq_true rfl).symm) ?_
        rintro e w2 ⟨rfl, hB2⟩
        exact ⟨_, rfl, hK _ _ (below_then hW hB2) (fun _ => hB2) (fun W'' h => rfl)⟩
    · intro us W hW hE
      have e2 : us 76 = .bool true := hE.1
      intro K hK
      with_reducible refine stepV0 (.bool true) (W) ?_ ?_ ?_
      · rfl
      · exact (ex_move rfl (ev_us (N := 100) rfl (by decide) e2))
      · exact hK _ _ (below_then hW (Below.refl _ _)) (fun _ => (Below.refl _ _)) (fun W'' h => rfl)
    · intro us W hW hE
      have e3 : us 77 = .bool true := hE.1
      intro K hK
      with_reducible refine stepV1 (.slice A8 n8 c8) (W) 3 77 true (N := 100) rfl e3 ?_ ?_ ?_ ?_ ?_
      · rfl
      · kernel_rfl
      · decide
      · exact (ex_move rfl (ev_old (by decide) rfl))
      · exact hK _ _ (below_then hW (Below.refl _ _)) (fun _ => (Below.refl _ _)) (fun W'' h => rfl)
    · intro us W hW hE
      have e3 : us 77 = .bool true := hE.1
      intro K hK
      with_reducible refine stepV1 (.slice (some ⟨W.heap.size, 0, none⟩) 0 0) (W.alloc (.cells #[] 25)) 3 77 true (N := 100) rfl e3 ?_ ?_ ?_ ?_ ?_
      · rfl
      · kernel_rfl
      · decide
      · exact ex_buildSlice (vs := #[]) rfl (by simp) (bsE0 W)
      · exact hK _ _ (below_then hW (below_al W _)) (fun _ => (below_al W _)) (fun W'' h => ⟨_, rfl, own_below (own_lower (own_empty W 25 3) hW.size) h⟩)
    · intro us W hW hE
      have e3 : us 77 = .bool true := hE.1
      intro K hK
      with_reducible refine stepV1 (.slice A1 m c1) (W) 3 77 true (N := 100) rfl e3 ?_ ?_ ?_ ?_ ?_
      · rfl
      · kernel_rfl
      · decide
      · exact (ex_move rfl (ev_old (by decide) rfl))
      · exact hK _ _ (below_then hW (Below.refl _ _)) (fun _ => (Below.refl _ _)) (fun W'' h => rfl)
    · intro us W hW hE
      have e3 : us 77 = .bool true := hE.1
      obtain ⟨B_5, e5, p5⟩ : ∃ B, us 79 = .slice (some ⟨B, 0, none⟩) 0 0 ∧ W.ownsRow W9.heap.size 25 3 (.slice (some ⟨B, 0, none⟩) 0 0) 0 [] := hE.2.1
      have e6 : us 80 = .slice A1 m c1 := hE.2.2.1
      obtain ⟨v', w', hr, hown, hB⟩ := append_first W W9.heap.size B_5 m c1 A1 ys p5 hW.size (hE4.below (undrew hW)) (by omega)
      obtain ⟨A', c', rfl, -, -⟩ := own_shape hown
      intro K hK
      with_reducible refine stepV1 (.slice A' m c') (w') 3 77 true (N := 100) rfl e3 ?_ ?_ ?_ ?_ ?_
      · rfl
      · kernel_rfl
      · decide
      · exact ex_append rfl (ev_us (N := 100) rfl (by decide) e5) (ev_us (N := 100) rfl (by decide) e6) hr
      · exact hK _ _ (below_then hW hB) (fun _ => hB) (fun W'' h => ⟨_, _, rfl, own_below hown h⟩)
    · intro us W hW hE
      have e3 : us 77 = .bool true := hE.1
      intro K hK
      with_reducible refine stepV1 (.agg #[.int .i64 y1.E.kind, .string (strOf y1.E.key), .slice y1.A y1.m y1.c]) (W) 3 77 true (N := 100) rfl e3 ?_ ?_ ?_ ?_ ?_
      · rfl
      · kernel_rfl
      · decide
      · exact ex_load rfl (ev_old (by decide) rfl) (load25 b9 0 y1 W (range_below hr9 (undrew hW)))
      · exact hK _ _ (below_then hW (Below.refl _ _)) (fun _ => (Below.refl _ _)) (fun W'' h => rfl)
    · intro us W hW hE
      have e3 : us 77 = .bool true := hE.1
      have e8 : us 82 = .agg #[.int .i64 y1.E.kind, .string (strOf y1.E.key), .slice y1.A y1.m y1.c] := hE.2.1
      intro K hK
      with_reducible refine stepV1 (.slice (some ⟨W.heap.size, 0, none⟩) 1 1) (W.alloc (.cells #[.int .i64 y1.E.kind, .string (strOf y1.E.key), .slice y1.A y1.m y1.c] 25)) 3 77 true (N := 100) rfl e3 ?_ ?_ ?_ ?_ ?_
      · rfl
      · kernel_rfl
      · decide
      · exact ex_buildSlice (vs := #[(0, .agg #[.int .i64 y1.E.kind, .string (strOf y1.E.key), .slice y1.A y1.m y1.c])]) rfl (by simp only [List.map_toArray, List.map_cons, List.map_nil]; rw [ev_us (N := 100) rfl (by decide) e8]) (bsE1 _ _ _ _ _ W)
      · exact hK _ _ (below_then hW (below_al W _)) (fun _ => (below_al W _)) (fun W'' h => ⟨_, rfl, (Rd.new W #[.int .i64 y1.E.kind, .string (strOf y1.E.key), .slice y1.A y1.m y1.c] 25 (0, 0)).below h⟩)
    · intro us W hW hE
      have e3 : us 77 = .bool true := hE.1
      obtain ⟨B_7, d_7, e7, p7⟩ : ∃ B d, us 81 = .slice B m d ∧ W.ownsRow W9.heap.size 25 3 (.slice B m d) m (rowsOf ys) := hE.2.1
      obtain ⟨B_9, e9, p9⟩ : ∃ B, us 83 = .slice (some ⟨B, 0, none⟩) 1 1 ∧ Rd W (some ⟨B, 0, none⟩) (newE y1) := hE.2.2.1
      obtain ⟨v', w', hr, hown, hB⟩ := run_own W9.drew W 23 23 25 _ 3 48 Tryd.underlying23 infoE25 rfl (by decide) (by decide) _ _ _ p7 hW (some ⟨B_9, 0, none⟩) 1 1 (newE y1) rfl p9 (by simp [newE, Value.oneCell']) (by omega)
      obtain ⟨A', c', rfl, -, -⟩ := own_shape hown
      rw [← rowsOf_snoc] at hown
      intro K hK
      with_reducible refine stepV1 (.slice A' (m + 1) c') (w') 3 77 true (N := 100) rfl e3 ?_ ?_ ?_ ?_ ?_
      · rfl
      · kernel_rfl
      · decide
      · exact ex_append rfl (ev_us (N := 100) rfl (by decide) e7) (ev_us (N := 100) rfl (by decide) e9) hr
      · exact hK _ _ hB (fun h => absurd rfl h) (fun W'' h => ⟨_, _, rfl, own_below hown h⟩)
    · intro us W hW hE
      have e3 : us 77 = .bool true := hE.1
      have e4 : us 78 = .slice A8 n8 c8 := hE.2.1
      obtain ⟨B_10, d_10, e10, p10⟩ : ∃ B d, us 84 = .slice B (m + 1) d ∧ W.ownsRow W9.heap.size 25 3 (.slice B (m + 1) d) (m + 1) (rowsOf (ys ++ [y1])) := hE.2.2.1
      intro K hK
      with_reducible refine stepC1 (19) (#[.slice A8 n8 c8, .slice B_10 (m + 1) d_10]) 3 77 true (N := 100) rfl e3 ?_ ?_ ?_ ?_ ?_
      · rfl
      · kernel_rfl
      · decide
      · exact (ex_fn2 rfl rfl (ev_us (N := 100) rfl (by decide) e4) (ev_us (N := 100) rfl (by decide) e10) (cf19 _ _))
      · refine Calls.mono (same19 A8 B_10 n8 (m + 1) c8 d_10 z1 (ys ++ [y1]) W (hz1.below (undrew hW)) (Es.ofOwn (w0 := W9) p10 (by rw [List.length_append, Hml.out]; rfl) (fun y hy => (hbd1 y hy).below (undrew hW))) (by omega) true (iff_of_true rfl HM1.out)) ?_
        rintro e w2 ⟨rfl, hB2⟩
        exact ⟨_, rfl, hK _ _ (below_then hW hB2) (fun _ => hB2) (fun W'' h => rfl)⟩
    · intro us W hW hE
      have e3 : us 77 = .bool true := hE.1
      have e11 : us 85 = .bool true := hE.2.1
      intro K hK
      with_reducible refine stepV0 (.bool true) (W) ?_ ?_ ?_
      · rfl
      · exact (ex_pick_t rfl (ev_us (N := 100) rfl (by decide) e3) (ev_us (N := 100) rfl (by decide) e11))
      · exact hK _ _ (below_then hW (Below.refl _ _)) (fun _ => (Below.refl _ _)) (fun W'' h => rfl)
    · intro us W hW hE
      have e12 : us 86 = .bool true := hE.1
      intro K hK
      with_reducible refine stepV0 (.bool true) (W) ?_ ?_ ?_
      · rfl
      · exact (ex_move rfl (ev_us (N := 100) rfl (by decide) e12))
      · exact hK _ _ (below_then hW (Below.refl _ _)) (fun _ => (Below.refl _ _)) (fun W'' h => rfl)
    · intro us W hW hE
      have e13 : us 87 = .bool true := hE.1
      intro K hK
      with_reducible refine stepV1 (.slice A9 n9 c9) (W) 13 87 true (N := 100) rfl e13 ?_ ?_ ?_ ?_ ?_
      · rfl
      · kernel_rfl
      · decide
      · exact (ex_move rfl (ev_old (by decide) rfl))
      · exact hK _ _ (below_then hW (Below.refl _ _)) (fun _ => (Below.refl _ _)) (fun W'' h => rfl)
    · intro us W hW hE
      have e13 : us 87 = .bool true := hE.1
      intro K hK
      with_reducible refine stepV1 (.slice (some ⟨W.heap.size, 0, none⟩) 0 0) (W.alloc (.cells #[] 25)) 13 87 true (N := 100) rfl e13 ?_ ?_ ?_ ?_ ?_
      · rfl
      · kernel_rfl
      · decide
      · exact ex_buildSlice (vs := #[]) rfl (by simp) (bsE0 W)
      · exact hK _ _ (below_then hW (below_al W _)) (fun _ => (below_al W _)) (fun W'' h => ⟨_, rfl, own_below (own_lower (own_empty W 25 3) hW.size) h⟩)
    · intro us W hW hE
      have e13 : us 87 = .bool true := hE.1
      intro K hK
      with_reducible refine stepV1 (.slice A1 m c1) (W) 13 87 true (N := 100) rfl e13 ?_ ?_ ?_ ?_ ?_
      · rfl
      · kernel_rfl
      · decide
      · exact (ex_move rfl (ev_old (by decide) rfl))
      · exact hK _ _ (below_then hW (Below.refl _ _)) (fun _ => (Below.refl _ _)) (fun W'' h => rfl)
    · intro us W hW hE
      have e13 : us 87 = .bool true := hE.1
      obtain ⟨B_15, e15, p15⟩ : ∃ B, us 89 = .slice (some ⟨B, 0, none⟩) 0 0 ∧ W.ownsRow W9.heap.size 25 3 (.slice (some ⟨B, 0, none⟩) 0 0) 0 [] := hE.2.1
      have e16 : us 90 = .slice A1 m c1 := hE.2.2.1
      obtain ⟨v', w', hr, hown, hB⟩ := append_first W W9.heap.size B_15 m c1 A1 ys p15 hW.size (hE4.below (undrew hW)) (by omega)
      obtain ⟨A', c', rfl, -, -⟩ := own_shape hown
      intro K hK
      with_reducible refine stepV1 (.slice A' m c') (w') 13 87 true (N := 100) rfl e13 ?_ ?_ ?_ ?_ ?_
      · rfl
      · kernel_rfl
      · decide
      · exact ex_append rfl (ev_us (N := 100) rfl (by decide) e15) (ev_us (N := 100) rfl (by decide) e16) hr
      · exact hK _ _ (below_then hW hB) (fun _ => hB) (fun W'' h => ⟨_, _, rfl, own_below hown h⟩)
    · intro us W hW hE
      have e13 : us 87 = .bool true := hE.1
      intro K hK
      with_reducible refine stepV1 (.agg #[.int .i64 y2.E.kind, .string (strOf y2.E.key), .slice y2.A y2.m y2.c]) (W) 13 87 true (N := 100) rfl e13 ?_ ?_ ?_ ?_ ?_
      · rfl
      · kernel_rfl
      · decide
      · exact ex_load rfl (ev_old (by decide) rfl) (load25 b10 0 y2 W (range_below hr10 (undrew hW)))
      · exact hK _ _ (below_then hW (Below.refl _ _)) (fun _ => (Below.refl _ _)) (fun W'' h => rfl)
    · intro us W hW hE
      have e13 : us 87 = .bool true := hE.1
      have e18 : us 92 = .agg #[.int .i64 y2.E.kind, .string (strOf y2.E.key), .slice y2.A y2.m y2.c] := hE.2.1
      intro K hK
      with_reducible refine stepV1 (.slice (some ⟨W.heap.size, 0, none⟩) 1 1) (W.alloc (.cells #[.int .i64 y2.E.kind, .string (strOf y2.E.key), .slice y2.A y2.m y2.c] 25)) 13 87 true (N := 100) rfl e13 ?_ ?_ ?_ ?_ ?_
      · rfl
      · kernel_rfl
      · decide
      · exact ex_buildSlice (vs := #[(0, .agg #[.int .i64 y2.E.kind, .string (strOf y2.E.key), .slice y2.A y2.m y2.c])]) rfl (by simp only [List.map_toArray, List.map_cons, List.map_nil]; rw [ev_us (N := 100) rfl (by decide) e18]) (bsE1 _ _ _ _ _ W)
      · exact hK _ _ (below_then hW (below_al W _)) (fun _ => (below_al W _)) (fun W'' h => ⟨_, rfl, (Rd.new W #[.int .i64 y2.E.kind, .string (strOf y2.E.key), .slice y2.A y2.m y2.c] 25 (0, 0)).below h⟩)
    · intro us W hW hE
      have e13 : us 87 = .bool true := hE.1
      obtain ⟨B_17, d_17, e17, p17⟩ : ∃ B d, us 91 = .slice B m d ∧ W.ownsRow W9.heap.size 25 3 (.slice B m d) m (rowsOf ys) := hE.2.1
      obtain ⟨B_19, e19, p19⟩ : ∃ B, us 93 = .slice (some ⟨B, 0, none⟩) 1 1 ∧ Rd W (some ⟨B, 0, none⟩) (newE y2) := hE.2.2.1
      obtain ⟨v', w', hr, hown, hB⟩ := run_own W9.drew W 23 23 25 _ 3 48 Tryd.underlying23 infoE25 rfl (by decide) (by decide) _ _ _ p17 hW (some ⟨B_19, 0, none⟩) 1 1 (newE y2) rfl p19 (by simp [newE, Value.oneCell']) (by omega)
      obtain ⟨A', c', rfl, -, -⟩ := own_shape hown
      rw [← rowsOf_snoc] at hown
      intro K hK
      with_reducible refine stepV1 (.slice A' (m + 1) c') (w') 13 87 true (N := 100) rfl e13 ?_ ?_ ?_ ?_ ?_
      · rfl
      · kernel_rfl
      · decide
      · exact ex_append rfl (ev_us (N := 100) rfl (by decide) e17) (ev_us (N := 100) rfl (by decide) e19) hr
      · exact hK _ _ hB (fun h => absurd rfl h) (fun W'' h => ⟨_, _, rfl, own_below hown h⟩)
    · intro us W hW hE
      have e13 : us 87 = .bool true := hE.1
      have e14 : us 88 = .slice A9 n9 c9 := hE.2.1
      obtain ⟨B_20, d_20, e20, p20⟩ : ∃ B d, us 94 = .slice B (m + 1) d ∧ W.ownsRow W9.heap.size 25 3 (.slice B (m + 1) d) (m + 1) (rowsOf (ys ++ [y2])) := hE.2.2.1
      intro K hK
      with_reducible refine stepC1 (19) (#[.slice A9 n9 c9, .slice B_20 (m + 1) d_20]) 13 87 true (N := 100) rfl e13 ?_ ?_ ?_ ?_ ?_
      · rfl
      · kernel_rfl
      · decide
      · exact (ex_fn2 rfl rfl (ev_us (N := 100) rfl (by decide) e14) (ev_us (N := 100) rfl (by decide) e20) (cf19 _ _))
      · refine Calls.mono (same19 A9 B_20 n9 (m + 1) c9 d_20 z2 (ys ++ [y2]) W (hz2.below (undrew hW)) (Es.ofOwn (w0 := W9) p20 (by rw [List.length_append, Hml.out]; rfl) (fun y hy => (hbd2 y hy).below (undrew hW))) (by omega) true (iff_of_true rfl HM2.out)) ?_
        rintro e w2 ⟨rfl, hB2⟩
        exact ⟨_, rfl, hK _ _ (below_then hW hB2) (fun _ => hB2) (fun W'' h => rfl)⟩
    · intro us W hW hE
      have e13 : us 87 = .bool true := hE.1
      have e21 : us 95 = .bool true := hE.2.1
      intro K hK
      with_reducible refine stepV0 (.bool true) (W) ?_ ?_ ?_
      · rfl
      · exact (ex_pick_t rfl (ev_us (N := 100) rfl (by decide) e13) (ev_us (N := 100) rfl (by decide) e21))
      · exact hK _ _ (below_then hW (Below.refl _ _)) (fun _ => (Below.refl _ _)) (fun W'' h => rfl)
    · intro us W hW hE
      have e22 : us 96 = .bool true := hE.1
      intro K hK
      with_reducible refine stepV0 (.bool true) (W) ?_ ?_ ?_
      · rfl
      · exact (ex_move rfl (ev_us (N := 100) rfl (by decide) e22))
      · exact hK _ _ (below_then hW (Below.refl _ _)) (fun _ => (Below.refl _ _)) (fun W'' h => rfl)
    · intro us W hW hE
      have e23 : us 97 = .bool true := hE.1
      intro K hK
      with_reducible refine stepV1 (.bool true) (W) 23 97 true (N := 100) rfl e23 ?_ ?_ ?_ ?_ ?_
      · rfl
      · kernel_rfl
      · decide
      · exact (ex_move rfl (ev_old (by decide) rfl))
      · exact hK _ _ (below_then hW (Below.refl _ _)) (fun _ => (Below.refl _ _)) (fun W'' h => rfl)
    · intro us W hW hE
      have e23 : us 97 = .bool true := hE.1
      have e24 : us 98 = .bool true := hE.2.1
      intro K hK
      with_reducible refine stepV0 (.bool true) (W) ?_ ?_ ?_
      · rfl
      · exact (ex_pick_t rfl (ev_us (N := 100) rfl (by decide) e23) (ev_us (N := 100) rfl (by decide) e24))
      · exact hK _ _ (below_then hW (Below.refl _ _)) (fun _ => (Below.refl _ _)) (fun W'' h => rfl)
    · intro us W hW hE
      have e25 : us 99 = .bool true := hE.1
      intro K hK
      with_reducible refine stepV0 (.bool true) (W) ?_ ?_ ?_
      · rfl
      · exact (ex_assign rfl (ev_us (N := 100) rfl (by decide) e25))
      · exact hK _ _ (below_then hW (Below.refl _ _)) (fun _ => (Below.refl _ _)) (fun W'' h => rfl)
    · intro us W hW hF
      have h6 : us 6 = .bool true := hF 26 _ rfl (.inl rfl)
      have hBW := undrew hW
      simp only [inD, List.erase_cons, fillT, Act.put, List.setIfInBounds_toArray, List.set_cons_zero, List.set_cons_succ]
      rw [h6]
      clear h6 hF
      go_wp2_with fail
      go_ret
      exact ⟨rfl, below_then hBB hBW⟩
end Go.Proofs.YtcohgkiloaapcaaDoor

/- Contracts: DecodeEntry's closure; decode; DecodeEntry. -/
import Derived.Test.YtcohgkiloaapcaaDoorC9
namespace Go.Proofs.YtcohgkiloaapcaaDoor
open Go.RowKit

/-- An entry's variable in block b. -/
def EnB (k : Int) (key : ByteArray) (A : Option Addr) (m c : Nat) : Obj := .cells #[.int .i64 k, .string key, .slice A m c] 25

/-- Two blocks alone have turned. -/
structure Only2 (D b : Nat) (w w' : World) : Prop where
  os : w'.os = w.os
  tape : w'.tape = w.tape
  output : w'.output = w.output
  size : w.heap.size ≤ w'.heap.size
  block : ∀ i, i < w.heap.size → i ≠ D → i ≠ b → w'.heap[i]? = w.heap[i]?
theorem only2_mk {D b : Nat} {w w1 w2 : World} (h : OnlyD D w w1) (k : w1.grownBy w2 (some b)) : Only2 D b w w2 :=
  ⟨k.os.trans h.os, k.tape.trans h.tape, k.output.trans h.output, Nat.le_trans h.size k.size, fun i hi h1 h2 => (k.block i (Nat.lt_of_lt_of_le hi h.size) (fun e => h2 (by simpa using e))).trans (h.block i hi (fun e => h1 (by simpa using e)))⟩

theorem sets3 {w : World} {b : Nat} {x y z : Value} (h : w.heap[b]? = some (.cells #[x, y, z] 25)) (x' y' z' : Value) : (w.setCells b 0 [x', y', z']).heap[b]? = some (.cells #[x', y', z'] 25) := by
  have h1 := heap_setCell_same w b 0 _ 25 x' h
  have h2 := heap_setCell_same _ b 1 _ 25 y' h1
  exact heap_setCell_same _ b 2 _ 25 z' h2

theorem grown_diff {w w' : World} {D b i : Nat} (h : OnlyD D w w') (hne : i ≠ D) (hi : i < w.heap.size) : w'.heap[i]? = w.heap[i]? := h.block i hi (fun e => hne (by simpa using e))

set_option maxRecDepth 20000 in
theorem dec1_yes {D b : Nat} {a : Option Addr} {n c p0 : Nat} {xs : List UInt8} {w : World} (hd : w.heap[D]? = some (DecB a n c p0)) (hb : Bs w a n c xs) (hp : p0 ≤ n) (hn : n ≤ 1000000000) {E : En} {l : List UInt8} (hv : eDec (xs.drop p0) = .ok (E, l))
    (hne : b ≠ D) {k0 : Int} {s0 : ByteArray} {A0 : Option Addr} {m0 c0 : Nat} (hbb : w.heap[b]? = some (EnB k0 s0 A0 m0 c0)) :
    Calls Tryd.prog 63 #[.pointer (some ⟨D, 0, none⟩), .pointer (some ⟨b, 0, none⟩)] w fun e w' => e = .returned (.tuple #[]) ∧ (∃ A m cc, w'.heap[b]? = some (EnB E.kind (strOf E.key) A m cc) ∧ Bo w' A m cc E.body) ∧
      ∃ q, q ≤ n ∧ xs.drop q = l ∧ w'.heap[D]? = some (DecB a n c q) ∧ Only2 D b w w' := by
  have hc := entry_yes hd hb hp hn hv
  have hbl : b < w.heap.size := (Array.getElem?_eq_some_iff.1 hbb).1
  clear hv hd hb
  go_enter Tryd.func63, Tryd.ntmps63
  have hthr : ∀ W : World, OnlyD D w W → W.there b 0 3 := fun W h => there_block ((grown_diff (b := 0) h hne hbl).trans hbb)
  go_wp2_with (first | (go_at_call 64; go_must (refine hc.mono ?_); rintro e w1 ⟨⟨v, rfl, A3, m3, cc3, rfl, hbody⟩, q, hq1, hq2, hq3, hg⟩; have hth := hthr w1 hg) | (refine wpList_store_mid rfl 25 _ _ rfl b 0 #[.int .i64 E.kind, .string (strOf E.key), .slice A3 m3 cc3] rfl rfl hth info25 (one3 _ _ _) ?_))
  go_end0
  have hb1 := (grown_diff (b := 0) hg hne hbl).trans hbb
  have hset := grown_sets b [.int .i64 E.kind, .string (strOf E.key), .slice A3 m3 cc3] 0 w1
  exact ⟨rfl, ⟨A3, m3, cc3, sets3 hb1 _ _ _, bo_grown hbody hset hb1 (by decide)⟩, q, hq1, hq2, (hset.block D (Array.getElem?_eq_some_iff.1 hq3).1 (fun e => hne (by simpa using e.symm))).trans hq3, only2_mk hg hset⟩

theorem dec1_no {D b : Nat} {a : Option Addr} {n c p0 : Nat} {xs : List UInt8} {w : World} (hd : w.heap[D]? = some (DecB a n c p0)) (hb : Bs w a n c xs) (hp : p0 ≤ n) (hn : n ≤ 1000000000) {cd : Nat} (hv : eDec (xs.drop p0) = .error cd) :
    Calls Tryd.prog 63 #[.pointer (some ⟨D, 0, none⟩), .pointer (some ⟨b, 0, none⟩)] w fun e w' => e = .panicked [{ v := .iface 121 (.agg #[.int .i64 cd]), recovered := false }] ∧ OnlyD D w w' := by
  have hc := entry_no hd hb hp hn hv
  clear hv hd hb
  go_enter Tryd.func63, Tryd.ntmps63
  go_wp2_with (go_at_call 64; go_must (refine hc.mono ?_); rintro e w1 ⟨rfl, hg⟩)
  exact ⟨rfl, rfl, hg⟩

theorem below_only {B D : Nat} {w w1 w2 : World} (h : Below B w w1) (k : OnlyD D w1 w2) (hB : B ≤ w1.heap.size) (hD : B ≤ D) : Below B w w2 :=
  ⟨k.os.trans h.os, k.tape.trans h.tape, k.output.trans h.output, Nat.le_trans h.size k.size, fun i hi => (k.block i (Nat.lt_of_lt_of_le hi hB) (fun e => absurd (show i = D by simpa using e) (by omega))).trans (h.block i hi)⟩

/-- The world when decode calls what it was handed. -/
def decW (a : Option Addr) (n c : Nat) (w : World) : World := ((w.alloc (.cells #[.int .i64 0] 3)).alloc (.cells #[.int .i64 0] 30)).alloc (.cells #[.slice a n c, .int .i64 0] 124)
theorem decW_below (a : Option Addr) (n c : Nat) (w : World) : Below w.heap.size w (decW a n c w) :=
  below_then (below_then (below_al w _) (below_al _ _)) (below_al _ _)
theorem decW_at (a : Option Addr) (n c : Nat) (w : World) : (decW a n c w).heap[w.heap.size + 1 + 1]? = some (DecB a n c 0) ∧ (decW a n c w).heap[w.heap.size]? = some (.cells #[.int .i64 0] 3) ∧ (decW a n c w).heap[w.heap.size + 1]? = some (.cells #[.int .i64 0] 30) := by
  have s1 : (w.alloc (.cells #[.int .i64 0] 3)).heap.size = w.heap.size + 1 := by simp
  have s2 : ((w.alloc (.cells #[.int .i64 0] 3)).alloc (.cells #[.int .i64 0] 30)).heap.size = w.heap.size + 1 + 1 := by simp
  refine ⟨?_, ?_, ?_⟩
  · rw [← s2]; exact heap_alloc_new _ _
  · exact ((below_al _ _).block _ (by rw [s2]; omega)).trans (((below_al _ _).block _ (by rw [s1]; omega)).trans (heap_alloc_new _ _))
  · refine ((below_al _ _).block _ (by rw [s2]; omega)).trans ?_
    rw [← s1]
    exact heap_alloc_new _ _

set_option maxRecDepth 20000 in
theorem decode_no {b : Nat} {a : Option Addr} {n c : Nat} {xs : List UInt8} {w : World} (hb : Bs w a n c xs) (hn : n ≤ 1000000000) {cd : Nat} (hv : eDec xs = .error cd) :
    Calls Tryd.prog 62 #[.slice a n c, .func (.func 63) #[] #[.pointer (some ⟨b, 0, none⟩)]] w fun e w' => e = .returned (.tuple #[.int .i64 0, .int .i64 cd]) ∧ Below w.heap.size w w' := by
  have hmf : ∀ (fn : Fn) (first cap : Array Value) (w : World), (Instr.makeFunc fn first cap).run Tryd.prog w = .ok (.func fn first cap) w := fun _ _ _ _ => rfl
  have hat := decW_at a n c w
  have hc := dec1_no (b := b) hat.1 (hb.below (decW_below a n c w)) (Nat.zero_le _) hn (cd := cd) (by rw [List.drop_zero]; exact hv)
  have HA := Lib.hid hat
  clear hat hv hb
  unfold decW at hc
  go_enter_defers Tryd.func62, Tryd.ntmps62
  go_wp2_with (go_at_call 63; go_must (refine hc.mono ?_); rintro e w1 ⟨rfl, hg⟩)
  have hsz : (decW a n c w).heap.size = w.heap.size + 1 + 1 + 1 := by simp [decW]
  have e1 := (grown_diff (b := 0) (i := w.heap.size) hg (by omega) (by have := hsz; unfold decW at this; omega)).trans HA.out.2.1
  have e2 := (grown_diff (b := 0) (i := w.heap.size + 1) hg (by omega) (by have := hsz; unfold decW at this; omega)).trans HA.out.2.2
  have hBw := below_only (decW_below a n c w) hg (by omega) (by omega)
  refine leaves_cons (f := 67) (args := #[.pointer (some ⟨w.heap.size, 0, none⟩), .pointer (some ⟨w.heap.size + 1, 0, none⟩)]) (by simp) (by simp [go_sem]) ?_
  refine (catch_panicking _ _ 0 0 cd w1 e1 e2 (by omega)).mono ?_
  rintro e u' w'' ⟨rfl, rfl, h1, h2, h3⟩
  simp [Leaves, settle, results, Tryd.results62, go_sem, h1, h2]
  exact hBw.trans (by rw [show min w.heap.size (w.heap.size + 1) = w.heap.size by omega] at h3; exact h3)

theorem no_u8_1 (k : IntKind) (hk : k ≠ .u8) (x : Int) : ∀ j : Nat, ∀ y : UInt8, #[Value.int k x][j]? ≠ some (by8 y) := by
  intro j y
  rcases j with _ | j
  · simp [by8, hk]
  · simp

set_option maxRecDepth 20000 in
theorem decode_yes {b : Nat} {a : Option Addr} {n c : Nat} {xs : List UInt8} {w : World} (hb : Bs w a n c xs) (hn : n ≤ 1000000000) {E : En} {l : List UInt8} (hv : eDec xs = .ok (E, l))
    {k0 : Int} {s0 : ByteArray} {A0 : Option Addr} {m0 c0 : Nat} (hbb : w.heap[b]? = some (EnB k0 s0 A0 m0 c0)) :
    Calls Tryd.prog 62 #[.slice a n c, .func (.func 63) #[] #[.pointer (some ⟨b, 0, none⟩)]] w fun e w' => (∃ q : Nat, q ≤ n ∧ xs.drop q = l ∧ e = .returned (.tuple #[.int .i64 q, .int .i64 0])) ∧ (∃ A m cc, w'.heap[b]? = some (EnB E.kind (strOf E.key) A m cc) ∧ Bo w' A m cc E.body) ∧ OnlyD b w w' := by
  have hmf : ∀ (fn : Fn) (first cap : Array Value) (w : World), (Instr.makeFunc fn first cap).run Tryd.prog w = .ok (.func fn first cap) w := fun _ _ _ _ => rfl
  have hat := decW_at a n c w
  have hbl : b < w.heap.size := (Array.getElem?_eq_some_iff.1 hbb).1
  have hc := dec1_yes hat.1 (hb.below (decW_below a n c w)) (Nat.zero_le _) hn (E := E) (l := l) (by rw [List.drop_zero]; exact hv) (b := b) (by omega) (((decW_below a n c w).block b hbl).trans hbb)
  have HA := Lib.hid hat
  clear hat hv hb
  unfold decW at hc
  have hfacts : ∀ w1 : World, Only2 (w.heap.size + 1 + 1) b (decW a n c w) w1 → (w1.cell? ⟨w.heap.size, 0, none⟩ = some (.int .i64 0) ∧ w1.frozen? ⟨w.heap.size, 0, none⟩ = false) ∧ (w1.cell? ⟨w.heap.size + 1, 0, none⟩ = some (.int .i64 0) ∧ w1.frozen? ⟨w.heap.size + 1, 0, none⟩ = false) := fun w1 hg => by
    have hsz : (decW a n c w).heap.size = w.heap.size + 1 + 1 + 1 := by simp [decW]
    exact ⟨one_cell ((hg.block w.heap.size (by omega) (by omega) (by omega)).trans HA.out.2.1), one_cell ((hg.block (w.heap.size + 1) (by omega) (by omega) (by omega)).trans HA.out.2.2)⟩
  go_enter_defers Tryd.func62, Tryd.ntmps62
  go_wp2_with (go_at_call 63; go_must (refine hc.mono ?_); rintro e w1 ⟨rfl, hen, q, hq1, hq2, hq3, hg⟩; obtain ⟨hc0, hc1, hf1⟩ := cellD hq3; obtain ⟨⟨x1, y1⟩, x2, y2⟩ := hfacts w1 hg)
  have hsz : (decW a n c w).heap.size = w.heap.size + 1 + 1 + 1 := by simp [decW]
  have b1 := (hg.block w.heap.size (by unfold decW at hsz; omega) (by omega) (by omega)).trans HA.out.2.1
  have b2 := (hg.block (w.heap.size + 1) (by unfold decW at hsz; omega) (by omega) (by omega)).trans HA.out.2.2
  have g1 := grown_set w1 w.heap.size 0 (.int .i64 q)
  have k1 := heap_setCell_same w1 w.heap.size 0 _ 3 (.int .i64 q) b1
  have k2 := (grown_diff (b := 0) (i := w.heap.size + 1) g1 (by omega) (Array.getElem?_eq_some_iff.1 b2).1).trans b2
  have g2 := grown_set (w1.setCell ⟨w.heap.size, 0, none⟩ (.int .i64 q)) (w.heap.size + 1) 0 (.int .i64 0)
  have k3 := (grown_diff (b := 0) (i := w.heap.size) g2 (by omega) (Array.getElem?_eq_some_iff.1 k1).1).trans k1
  have k4 := heap_setCell_same _ (w.heap.size + 1) 0 _ 30 (.int .i64 0) k2
  obtain ⟨A, m, cc, hen1, hen2⟩ := hen
  have hen3 := bo_grown (bo_grown hen2 g1 b1 (by decide)) g2 k2 (by decide)
  have hen4 := (grown_diff (b := 0) g2 (by omega) (Array.getElem?_eq_some_iff.1 ((grown_diff (b := 0) g1 (by omega) (Array.getElem?_eq_some_iff.1 hen1).1).trans hen1)).1).trans ((grown_diff (b := 0) g1 (by omega) (Array.getElem?_eq_some_iff.1 hen1).1).trans hen1)
  have hend : OnlyD b w ((w1.setCell ⟨w.heap.size, 0, none⟩ (.int .i64 q)).setCell ⟨w.heap.size + 1, 0, none⟩ (.int .i64 0)) := by
    have hd := decW_below a n c w
    refine ⟨g2.os.trans (g1.os.trans (hg.os.trans hd.os)), g2.tape.trans (g1.tape.trans (hg.tape.trans hd.tape)), g2.output.trans (g1.output.trans (hg.output.trans hd.output)), Nat.le_trans hd.size (Nat.le_trans hg.size (Nat.le_trans g1.size g2.size)), fun i hi hne => ?_⟩
    have hne' : i ≠ b := fun e => hne (by simpa using e)
    have h1 := hd.size
    have h2 := hg.size
    have h3 := g1.size
    have e1 := hg.block i (Nat.lt_of_lt_of_le hi h1) (by omega) hne'
    have e2 := grown_diff (b := 0) (i := i) g1 (by omega) (Nat.lt_of_lt_of_le hi (Nat.le_trans h1 h2))
    have e3 := grown_diff (b := 0) (i := i) g2 (by omega) (Nat.lt_of_lt_of_le hi (Nat.le_trans h1 (Nat.le_trans h2 h3)))
    exact e3.trans (e2.trans (e1.trans (hd.block i hi)))
  refine leaves_cons (f := 67) (args := #[.pointer (some ⟨w.heap.size, 0, none⟩), .pointer (some ⟨w.heap.size + 1, 0, none⟩)]) (by simp) (by simp [go_sem]) ?_
  refine (catch_idle _ _ _).mono ?_
  rintro e u' w'' ⟨rfl, rfl, rfl⟩
  obtain ⟨r1, -⟩ := one_cell k3
  obtain ⟨r2, -⟩ := one_cell k4
  generalize (w1.setCell ⟨w.heap.size, 0, none⟩ (.int .i64 q)).setCell ⟨w.heap.size + 1, 0, none⟩ (.int .i64 0) = W2 at *
  simp [Leaves, settle, results, Tryd.results62, go_sem, r1, r2]
  exact ⟨⟨q, hq1, hq2, rfl⟩, ⟨A, m, cc, hen4, hen3⟩, hend⟩
end Go.Proofs.YtcohgkiloaapcaaDoor

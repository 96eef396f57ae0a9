/- Contracts: the decoder's entry; decode; DecodeEntry. -/
import Derived.Test.YtcohgkiloaapcaaDoorC7
import Derived.Laws.BytesArg
import Derived.Recover
namespace Go.Proofs.YtcohgkiloaapcaaDoor
open Go.RowKit

/-- A string of bytes. -/
def strOf (xs : List UInt8) : ByteArray := ⟨xs.toArray⟩
theorem strB_strOf (xs : List UInt8) : strB (strOf xs) = xs := rfl
theorem strOf_strB (s : ByteArray) : strOf (strB s) = s := rfl
theorem strOf_size (xs : List UInt8) : (strOf xs).size = xs.length := by
  rw [← strB_length, strB_strOf]

theorem bs_string {w : World} {A : Option Addr} {n c : Nat} {xs : List UInt8} (h : Bs w A n c xs) :
    (convert 22 9 (.slice A n c)).run Tryd.prog w = .ok (.string (strOf xs)) w := by
  rw [run_convert_bytes_string w 22 9 5 A n c Tryd.underlying22 Tryd.underlying5 Tryd.underlying9]
  cases A with
  | none =>
    have h0 : xs = [] := by
      cases hx : xs with
      | nil => rfl
      | cons x l =>
        obtain ⟨b, o, he, _⟩ := h.at_ (by rw [← h.len, hx]; simp)
        cases he
    subst h0
    simp [Conv.bytesToString]
    rfl
  | some a =>
    rcases Nat.eq_zero_or_pos n with h0 | h0
    · have hx : xs = [] := List.eq_nil_of_length_eq_zero (by rw [h.len, h0])
      subst hx h0
      rw [run_bytesToString w a 0 c [] (by have := run_loadCells_list (P := Tryd.prog) w a [] (fun j v hj => by cases hj); simpa using this)]
      rfl
    · obtain ⟨b, o, he, hc⟩ := h.rd (by rw [bys_length, h.len]; exact h0)
      cases he
      have hl := run_loadCells_list (P := Tryd.prog) w ⟨b, o, none⟩ (bys xs) (fun j v hj => by rw [Addr.add_lit]; exact hc j v hj)
      rw [bys_length, h.len] at hl
      have hb : bys xs = (xs.map (fun x => (x.toNat : Int))).map (Value.int .u8) := by simp [bys, by8]
      rw [hb] at hl
      rw [run_bytesToString w _ n c _ hl, foldl_push_bytes]
      simp [strOf, Function.comp_def, ByteArray.empty, ByteArray.emptyWithCapacity]
      rfl

theorem below_al (w : World) (o : Obj) : Below w.heap.size w (w.alloc o) := (Below.refl _ _).alloc (Nat.le_refl _) o

theorem info25 : (Tryd.prog.info? 25).map (·.size) = some 3 := by kernel_rfl
theorem there_block {w : World} {b : Nat} {x y z : Value} {t : TypeId} (h : w.heap[b]? = some (.cells #[x, y, z] t (0, 0))) : w.there b 0 3 := fun j hj => by
  have h1 : w.cell? ⟨b, 0 + j, none⟩ = #[x, y, z][j]? := by rw [Nat.zero_add]; exact cell_of_row w b j _ t (0, 0) h
  refine ⟨by rw [h1]; have : j = 0 ∨ j = 1 ∨ j = 2 := (by omega); rcases this with rfl | rfl | rfl <;> rfl, by simp [World.frozen?, h]⟩

theorem one3 (k : Int) (s : ByteArray) (A : Option Addr) {m c : Nat} : (#[Value.int .i64 k, .string s, .slice A m c].all fun x => x.oneCell') = true := by simp [Value.oneCell']

theorem bs_apart {w w' : World} {B : Nat} {A : Option Addr} {n c : Nat} {xs : List UInt8} (h : Bs w A n c xs) (hg : w.grownBy w' (some B)) {cs : Array Value} {t : TypeId} (hd : w.heap[B]? = some (.cells cs t (0, 0))) (hno : ∀ j : Nat, ∀ x : UInt8, cs[j]? ≠ some (by8 x)) : Bs w' A n c xs := by
  refine ⟨h.len, h.le, h.max, fun hn => ?_⟩
  obtain ⟨b, o, e, hc⟩ := h.rd hn
  refine ⟨b, o, e, fun j u hj => hg.cell (hc j u hj) ?_⟩
  intro hbd
  have hbd : b = B := by simpa using hbd
  subst hbd
  have h1 := hc j u hj
  rw [cell_of_row w b _ _ t (0, 0) hd] at h1
  obtain ⟨hlt, he⟩ := List.getElem?_eq_some_iff.1 hj
  rw [← he] at h1
  exact hno _ (xs[j]'(by rw [bys_length] at hlt; exact hlt)) (by rw [h1]; simp [bys])
theorem grown_set (w : World) (b o : Nat) (v : Value) : w.grownBy (w.setCell ⟨b, o, none⟩ v) (some b) :=
  ⟨rfl, rfl, rfl, by simp [World.setCell], fun k _ hne => heap_setCell_other w _ k v (fun e => hne (by rw [e]))⟩
theorem grown_sets (b : Nat) : ∀ (vs : List Value) (o : Nat) (w : World), w.grownBy (w.setCells b o vs) (some b)
  | [], _, w => ⟨rfl, rfl, rfl, Nat.le_refl _, fun _ _ _ => rfl⟩
  | v :: vs, o, w => grown_trans (grown_set w b o v) (grown_sets b vs (o + 1) _)
theorem grown_below {w w1 w2 : World} {r : Option Nat} (h : w.grownBy w1 r) (k : Below w.heap.size w1 w2) : w.grownBy w2 r :=
  ⟨k.os.trans h.os, k.tape.trans h.tape, k.output.trans h.output, Nat.le_trans h.size k.size, fun i hi hne => (k.block i hi).trans (h.block i hi hne)⟩
theorem no_u8 (k : Int) (s : ByteArray) (A : Option Addr) {m c : Nat} : ∀ j : Nat, ∀ x : UInt8, #[Value.int .i64 k, .string s, .slice A m c][j]? ≠ some (by8 x) := by
  intro j x
  rcases j with _ | _ | _ | j <;> simp [by8]

/-- The value of an entry. -/
def EnV (w : World) (E : En) (v : Value) : Prop := ∃ A m cc, v = .agg #[.int .i64 E.kind, .string (strOf E.key), .slice A m cc] ∧ Bo w A m cc E.body

set_option maxRecDepth 20000 in
theorem entry_yes {D : Nat} {a : Option Addr} {n c p0 : Nat} {xs : List UInt8} {w : World} (hd : w.heap[D]? = some (DecB a n c p0)) (hb : Bs w a n c xs) (hp : p0 ≤ n) (hn : n ≤ 1000000000) {E : En} {l : List UInt8} (hv : eDec (xs.drop p0) = .ok (E, l)) :
    Calls Tryd.prog 64 #[.pointer (some ⟨D, 0, none⟩)] w fun e w' => (∃ v, e = .returned v ∧ EnV w' E v) ∧ ∃ q, q ≤ n ∧ xs.drop q = l ∧ w'.heap[D]? = some (DecB a n c q) ∧ OnlyD D w w' := by
  unfold eDec at hv
  cases h1 : nDec 1 4 (xs.drop p0) with
  | error c1 => rw [h1] at hv; cases hv
  | ok x =>
    obtain ⟨k, l1⟩ := x
    rw [h1] at hv
    dsimp only at hv
    cases h2 : bDec 1 40 l1 with
    | error c1 => rw [h2] at hv; cases hv
    | ok x =>
      obtain ⟨key, l2⟩ := x
      rw [h2] at hv
      dsimp only at hv
      cases h3 : bDec 0 20000 l2 with
      | error c1 => rw [h3] at hv; cases hv
      | ok x =>
        obtain ⟨body, l3⟩ := x
        rw [h3] at hv
        dsimp only at hv
        cases hv
        have hD : D < w.heap.size := (Array.getElem?_eq_some_iff.1 hd).1
        have hd0 : (w.alloc (.cells #[.int .i64 0, .string ByteArray.empty, .slice none 0 0] 25)).heap[D]? = some (DecB a n c p0) := ((below_al w _).block D hD).trans hd
        have hb0 := hb.below (below_al w (.cells #[.int .i64 0, .string ByteArray.empty, .slice none 0 0] 25))
        have hc := number_yes hd0 hb0 hp hn 1 4 h1
        clear hd h1 hb
        go_enter Tryd.func64, Tryd.ntmps64
        go_wp2_with (go_at_call 68; go_must (refine hc.mono ?_); rintro e w1 ⟨rfl, q, hq1, hq2, hq3, hg⟩)
        rw [← hq2] at h2
        have hb1 := bs_only hb0 hg hd0
        have hc2 := bytes_yes hq3 hb1 hq1 hn 1 40 (by decide) h2
        go_wp2_with (go_at_call 69; go_must (refine hc2.mono ?_); rintro e w2 ⟨⟨A2, m2, cc2, rfl, hkey⟩, q2, hr1, hr2, hr3, hg2⟩)
        rw [← hr2] at h3
        have hb2 := bs_only hb1 hg2 hq3
        have hst := bs_string hkey.bs
        have hc3 := bytes_yes hr3 hb2 hr1 hn 0 20000 (by decide) h3
        rw [hst]
        clear hst
        have hB0 : (w.alloc (.cells #[.int .i64 0, .string ByteArray.empty, .slice none 0 0] 25)).heap[w.heap.size]? = some (.cells #[.int .i64 0, .string ByteArray.empty, .slice none 0 0] 25 (0, 0)) := heap_alloc_new w _
        have hne : w.heap.size ≠ D := by omega
        have hthr : ∀ W : World, OnlyD D (w.alloc (.cells #[.int .i64 0, .string ByteArray.empty, .slice none 0 0] 25)) W → W.there w.heap.size 0 3 := fun W h => there_block ((h.block _ (by simp) (fun e => hne (by simpa using e))).trans hB0)
        go_wp2_with (first | (go_at_call 69; go_must (refine hc3.mono ?_); rintro e w3 ⟨⟨A3, m3, cc3, rfl, hbody⟩, q3, hs1, hs2, hs3, hg3⟩; have hth3 := hthr w3 (grown_trans hg (grown_trans hg2 hg3))) | (refine wpList_store_mid rfl 25 _ _ rfl w.heap.size 0 #[.int .i64 k, .string (strOf key), .slice A3 m3 cc3] rfl rfl hth3 info25 (one3 _ _ _) ?_))
        refine bodyPost_ret (results_cell_mid rfl _ _ w.heap.size 0 [.int .i64 k, .string (strOf key), .slice A3 m3 cc3] _ rfl (World.rangeAt_setCells_same _ _ _ _ hth3) Tryd.underlying25 rfl info25) rfl ?_
        have hall := grown_trans (grown_of_below (below_al w (.cells #[.int .i64 0, .string ByteArray.empty, .slice none 0 0] 25)) _) (grown_trans hg (grown_trans hg2 hg3))
        have hblk : w3.heap[w.heap.size]? = some (.cells #[.int .i64 0, .string ByteArray.empty, .slice none 0 0] 25 (0, 0)) := ((grown_trans hg (grown_trans hg2 hg3)).block _ (by simp) (fun e => hne (by simpa using e))).trans hB0
        have hbel : Below w.heap.size w3 (w3.setCells w.heap.size 0 [.int .i64 k, .string (strOf key), .slice A3 m3 cc3]) := setCells_below _ (Nat.le_refl _) _ _ _ (Below.refl _ _)
        refine ⟨⟨_, rfl, A3, m3, cc3, rfl, bo_grown hbody (grown_sets _ _ _ _) hblk (by decide)⟩, q3, hs1, hs2, (hbel.block D hD).trans hs3, grown_below hall hbel⟩

set_option maxRecDepth 20000 in
theorem entry_no {D : Nat} {a : Option Addr} {n c p0 : Nat} {xs : List UInt8} {w : World} (hd : w.heap[D]? = some (DecB a n c p0)) (hb : Bs w a n c xs) (hp : p0 ≤ n) (hn : n ≤ 1000000000) {cd : Nat} (hv : eDec (xs.drop p0) = .error cd) :
    Calls Tryd.prog 64 #[.pointer (some ⟨D, 0, none⟩)] w fun e w' => e = .panicked [{ v := .iface 121 (.agg #[.int .i64 cd]), recovered := false }] ∧ OnlyD D w w' := by
  unfold eDec at hv
  have hD : D < w.heap.size := (Array.getElem?_eq_some_iff.1 hd).1
  have hal := grown_of_below (below_al w (.cells #[.int .i64 0, .string ByteArray.empty, .slice none 0 0] 25)) (some D)
  have hd0 : (w.alloc (.cells #[.int .i64 0, .string ByteArray.empty, .slice none 0 0] 25)).heap[D]? = some (DecB a n c p0) := ((below_al w _).block D hD).trans hd
  have hb0 := hb.below (below_al w (.cells #[.int .i64 0, .string ByteArray.empty, .slice none 0 0] 25))
  cases h1 : nDec 1 4 (xs.drop p0) with
  | error c1 =>
    rw [h1] at hv
    cases hv
    have hc := number_no hd0 hb0 hp hn 1 4 h1
    clear hd h1 hb
    go_enter Tryd.func64, Tryd.ntmps64
    go_wp2_with (go_at_call 68; go_must (refine hc.mono ?_); rintro e w1 ⟨rfl, hg⟩)
    exact ⟨rfl, rfl, grown_trans hal hg⟩
  | ok x =>
    obtain ⟨k, l1⟩ := x
    rw [h1] at hv
    dsimp only at hv
    have hc := number_yes hd0 hb0 hp hn 1 4 h1
    cases h2 : bDec 1 40 l1 with
    | error c1 =>
      rw [h2] at hv
      cases hv
      clear hd h1 hb
      go_enter Tryd.func64, Tryd.ntmps64
      go_wp2_with (go_at_call 68; go_must (refine hc.mono ?_); rintro e w1 ⟨rfl, q, hq1, hq2, hq3, hg⟩)
      rw [← hq2] at h2
      have hb1 := bs_only hb0 hg hd0
      have hc2 := bytes_no hq3 hb1 hq1 hn 1 40 h2
      go_wp2_with (go_at_call 69; go_must (refine hc2.mono ?_); rintro e w2 ⟨rfl, hg2⟩)
      exact ⟨rfl, rfl, grown_trans hal (grown_trans hg hg2)⟩
    | ok x =>
      obtain ⟨key, l2⟩ := x
      rw [h2] at hv
      dsimp only at hv
      cases h3 : bDec 0 20000 l2 with
      | ok x => obtain ⟨x1, x2⟩ := x; rw [h3] at hv; cases hv
      | error c1 =>
        rw [h3] at hv
        cases hv
        clear hd h1 hb
        go_enter Tryd.func64, Tryd.ntmps64
        go_wp2_with (go_at_call 68; go_must (refine hc.mono ?_); rintro e w1 ⟨rfl, q, hq1, hq2, hq3, hg⟩)
        rw [← hq2] at h2
        have hb1 := bs_only hb0 hg hd0
        have hc2 := bytes_yes hq3 hb1 hq1 hn 1 40 (by decide) h2
        go_wp2_with (go_at_call 69; go_must (refine hc2.mono ?_); rintro e w2 ⟨⟨A2, m2, cc2, rfl, hkey⟩, q2, hr1, hr2, hr3, hg2⟩)
        rw [← hr2] at h3
        have hb2 := bs_only hb1 hg2 hq3
        have hst := bs_string hkey.bs
        have hc3 := bytes_no hr3 hb2 hr1 hn 0 20000 h3
        rw [hst]
        clear hst
        go_wp2_with (go_at_call 69; go_must (refine hc3.mono ?_); rintro e w3 ⟨rfl, hg3⟩)
        exact ⟨rfl, rfl, grown_trans hal (grown_trans hg (grown_trans hg2 hg3))⟩
end Go.Proofs.YtcohgkiloaapcaaDoor

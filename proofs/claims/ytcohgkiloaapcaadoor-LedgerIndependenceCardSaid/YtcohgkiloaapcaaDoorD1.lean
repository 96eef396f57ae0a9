/- Contracts: DecodeEntry. -/
import Derived.Test.YtcohgkiloaapcaaDoorD0
namespace Go.Proofs.YtcohgkiloaapcaaDoor
open Go.RowKit

/-- The zero entry's variable. -/
def En0 : Obj := .cells #[.int .i64 0, .string ByteArray.empty, .slice none 0 0] 25

theorem results_cell3 {P : Program} {fn : Func} {p q r : Tmp} {ty : TypeId} (h : fn.results = #[.cell p ty, .tmp q, .tmp r]) (tmps : Array Value) (w : World) (b o : Nat) (cs : List Value) (d : TypeDesc)
    (hp : tmps.getD p undef = .pointer (some ⟨b, o, none⟩)) (hc : w.rangeAt b o cs)
    (hu : P.underlying ty = some d) (hd : d.isRow = true) (hi : (P.info? ty).map (·.size) = some cs.length) :
    (results fn tmps).run P w = .ok (.tuple #[.agg cs.toArray, tmps.getD q undef, tmps.getD r undef]) w := by
  have hp' : tmps[p]?.getD undef = .pointer (some ⟨b, o, none⟩) := by simpa using hp
  simp [results, h, hp', asAddr, run_loadVar_mid w b o ty cs d hc hu hd hi]

theorem two_al (w : World) (o1 o2 : Obj) : ((w.alloc o1).alloc o2).heap[w.heap.size + 1]? = some o2 ∧ ((w.alloc o1).alloc o2).heap[w.heap.size]? = some o1 ∧ Below w.heap.size w ((w.alloc o1).alloc o2) := by
  have s1 : (w.alloc o1).heap.size = w.heap.size + 1 := by simp
  refine ⟨?_, ((below_al _ _).block _ (by rw [s1]; omega)).trans (heap_alloc_new _ _), below_then (below_al w o1) (below_al _ _)⟩
  rw [← s1]
  exact heap_alloc_new _ _

set_option maxRecDepth 20000 in
theorem decodeEntry_no {a : Option Addr} {n c : Nat} {xs : List UInt8} {w : World} (hb : Bs w a n c xs) (hn : n ≤ 1000000000) {cd : Nat} (hv : eDec xs = .error cd) (hcd : cd ≠ 0) :
    Calls Tryd.prog 56 #[.slice a n c] w fun e w' => e = .returned (.tuple #[.agg #[.int .i64 0, .string ByteArray.empty, .slice none 0 0], .int .i64 0, .int .i64 cd]) ∧ Below w.heap.size w w' := by
  have hmf : ∀ (fn : Fn) (first cap : Array Value) (w : World), (Instr.makeFunc fn first cap).run Tryd.prog w = .ok (.func fn first cap) w := fun _ _ _ _ => rfl
  obtain ⟨h1, h2, h3⟩ := two_al w En0 En0
  have hc := decode_no (b := w.heap.size + 1) (hb.below h3) hn hv
  have HB := Lib.hid h2
  have hcd0 : ((cd : Int) != 0) = true := by simp; omega
  unfold En0 at hc
  clear h1 h2 hv hb
  go_enter Tryd.func56, Tryd.ntmps56
  go_wp2_with (first | (go_at_call 62; go_must (refine hc.mono ?_); rintro e w1 ⟨rfl, hg⟩; have hth := there_block ((hg.block w.heap.size (by simp; omega)).trans HB.out)) | (refine wpList_store_mid rfl 25 _ _ rfl w.heap.size 0 #[.int .i64 0, .string ByteArray.empty, .slice none 0 0] rfl rfl hth info25 (one3 _ _ _) ?_))
  refine bodyPost_ret (results_cell3 rfl _ _ w.heap.size 0 [.int .i64 0, .string ByteArray.empty, .slice none 0 0] _ rfl (World.rangeAt_setCells_same _ _ _ _ hth) Tryd.underlying25 rfl info25) rfl ?_
  refine ⟨rfl, ?_⟩
  have hbw := below_then h3 hg
  exact setCells_below _ (Nat.le_refl _) _ _ _ hbw

/-- DecodeEntry hands back the entry and how many bytes it took. -/
def DEPost (xs : List UInt8) (n : Nat) (E : En) (l : List UInt8) (w : World) (e : Ending) (w' : World) : Prop :=
  (∃ q : Nat, ∃ v, q ≤ n ∧ xs.drop q = l ∧ e = .returned (.tuple #[v, .int .i64 q, .int .i64 0]) ∧ EnV w' E v) ∧ Below w.heap.size w w'

set_option maxRecDepth 20000 in
theorem decodeEntry_yes {a : Option Addr} {n c : Nat} {xs : List UInt8} {w : World} (hb : Bs w a n c xs) (hn : n ≤ 1000000000) {E : En} {l : List UInt8} (hv : eDec xs = .ok (E, l)) :
    Calls Tryd.prog 56 #[.slice a n c] w (DEPost xs n E l w) := by
  have hmf : ∀ (fn : Fn) (first cap : Array Value) (w : World), (Instr.makeFunc fn first cap).run Tryd.prog w = .ok (.func fn first cap) w := fun _ _ _ _ => rfl
  obtain ⟨h1, h2, h3⟩ := two_al w En0 En0
  have hc := decode_yes (hb.below h3) hn hv h1
  have HB := Lib.hid h2
  have hsz : ((w.alloc En0).alloc En0).heap.size = w.heap.size + 1 + 1 := by simp
  unfold En0 at hc
  clear h1 h2 hv hb
  have hfacts : ∀ w1 : World, OnlyD (w.heap.size + 1) ((w.alloc En0).alloc En0) w1 → w1.there w.heap.size 0 3 := fun w1 hg => there_block ((grown_diff (b := 0) hg (by omega) (by omega)).trans HB.out)
  have hrange : ∀ (w1 : World) (k : Int) (s : ByteArray) (A : Option Addr) (m cc : Nat), w1.heap[w.heap.size + 1]? = some (EnB k s A m cc) → w1.rangeAt (w.heap.size + 1) 0 [.int .i64 k, .string s, .slice A m cc] := fun w1 k s A m cc h => World.rangeAt_of_block h 0 3
  go_enter Tryd.func56, Tryd.ntmps56
  go_wp2_with (first | (go_at_call 62; go_must (refine hc.mono ?_); rintro e w1 ⟨⟨q, hq1, hq2, rfl⟩, ⟨A3, m3, c3, hen, hbody⟩, hg⟩; have hth := hfacts w1 hg; have hrg := hrange w1 _ _ _ _ _ hen) | (refine wpList_load_mid rfl 25 _ rfl (w.heap.size + 1) 0 rfl [.int .i64 E.kind, .string (strOf E.key), .slice A3 m3 c3] _ hrg Tryd.underlying25 rfl info25 ?_) | (refine wpList_store_mid rfl 25 _ _ rfl w.heap.size 0 #[.int .i64 E.kind, .string (strOf E.key), .slice A3 m3 c3] rfl rfl hth info25 (one3 _ _ _) ?_))
  refine bodyPost_ret (results_cell3 rfl _ _ w.heap.size 0 [.int .i64 E.kind, .string (strOf E.key), .slice A3 m3 c3] _ rfl (World.rangeAt_setCells_same _ _ _ _ hth) Tryd.underlying25 rfl info25) rfl ?_
  have hb0 := (grown_diff (b := 0) (i := w.heap.size) hg (by omega) (by unfold En0 at hsz; omega)).trans HB.out
  exact ⟨⟨q, _, hq1, hq2, rfl, A3, m3, c3, rfl, bo_grown hbody (grown_sets _ _ _ _) hb0 (by decide)⟩, setCells_below _ (Nat.le_refl _) _ _ _ (below_only h3 hg (by omega) (by omega))⟩
end Go.Proofs.YtcohgkiloaapcaaDoor

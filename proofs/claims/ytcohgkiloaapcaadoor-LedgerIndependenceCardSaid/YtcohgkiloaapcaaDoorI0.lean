/- Contracts: the reference's MadeEntry, Made. -/
import Derived.Test.YtcohgkiloaapcaaDoorH3
import Derived.Test.YtcohgkiloaapcaaDoorR2
namespace Go.Proofs.YtcohgkiloaapcaaDoor
open Go.RowKit

theorem and3 (k : Int) : ∃ n : Nat, n ≤ 3 ∧ bits .and .i64 k 3 = (n : Int) := by
  refine ⟨(BitVec.ofInt 64 k).toNat &&& 3, Nat.and_le_right, ?_⟩
  have h : (BitVec.ofInt 64 k).toNat &&& 3 ≤ 3 := Nat.and_le_right
  simp only [bits, BitVec.toNat_and]
  have e : (BitVec.ofInt (IntKind.bits .i64) 3).toNat = 3 := by decide
  rw [e]
  change IntKind.wrap .i64 (((BitVec.ofInt 64 k).toNat &&& 3 : Nat) : Int) = _
  rw [IntKind.wrap_i64]
  omega

set_option maxRecDepth 20000 in
set_option maxHeartbeats 2000000 in
theorem madeEntry (k : Int) (key : ByteArray) (A : Option Addr) (m c : Nat) (w : World) (hmc : m ≤ c) (hks : key.size ≤ 140737488355328) (hm : m ≤ 140737488355328) (body : List UInt8) (hb : Bs w A m c body) :
    Calls Tryd.prog 25 #[.agg #[.int .i64 k, .string key, .slice A m c]] w fun e w' => ∃ y : Rec, e = .returned (.agg (newE y).toArray) ∧ VE y.E ∧ (∀ W0 : World, Bs W0 A m c body → Bs W0 y.A y.m y.c y.E.body) ∧ y.err = none ∧ Below w.heap.size w w' := by
  obtain ⟨A', hcut, htr⟩ := cut_h (P := Tryd.prog) 22 5 Tryd.underlying22 info5 A m c (min m 60) ((min m 60 : Nat) : Int) rfl (by omega) hmc
  obtain ⟨kk, hkk, hand⟩ := and3 k
  go_enter Tryd.func25, Tryd.ntmps25
  go_wp2_with fail
  obtain ⟨k0, k1, hB⟩ := two_al w (.cells #[.int .i64 k, .string key, .slice A m c] 25) En0
  unfold En0 at k0 k1 hB
  have hc0 : ((w.alloc (.cells #[.int .i64 k, .string key, .slice A m c] 25)).alloc (.cells #[.int .i64 0, .string ByteArray.empty, .slice none 0 0] 25)).cell? ⟨w.heap.size, 0, none⟩ = some (.int .i64 k) := cell_of_row ((w.alloc (.cells #[.int .i64 k, .string key, .slice A m c] 25)).alloc (.cells #[.int .i64 0, .string ByteArray.empty, .slice none 0 0] 25)) _ 0 _ 25 (0, 0) k1
  have hc1 : ((w.alloc (.cells #[.int .i64 k, .string key, .slice A m c] 25)).alloc (.cells #[.int .i64 0, .string ByteArray.empty, .slice none 0 0] 25)).cell? ⟨w.heap.size, 1, none⟩ = some (.string key) := cell_of_row ((w.alloc (.cells #[.int .i64 k, .string key, .slice A m c] 25)).alloc (.cells #[.int .i64 0, .string ByteArray.empty, .slice none 0 0] 25)) _ 1 _ 25 (0, 0) k1
  have hc2 : ((w.alloc (.cells #[.int .i64 k, .string key, .slice A m c] 25)).alloc (.cells #[.int .i64 0, .string ByteArray.empty, .slice none 0 0] 25)).cell? ⟨w.heap.size, 2, none⟩ = some (.slice A m c) := cell_of_row ((w.alloc (.cells #[.int .i64 k, .string key, .slice A m c] 25)).alloc (.cells #[.int .i64 0, .string ByteArray.empty, .slice none 0 0] 25)) _ 2 _ 25 (0, 0) k1
  refine region_inv (by kernel_rfl) (any_tail
    [(4, [6, 7, 8, 9, 10, 11, 12, 13, 14, 15, 16, 17, 18, 19, 20, 21, 22, 3], []), (5, [4, 7, 8, 9, 10, 11, 12, 13, 14, 15, 16, 17, 18, 19, 20, 21, 22, 3], [(0, 4)]), (6, [4, 5, 8, 9, 10, 11, 12, 13, 14, 15, 16, 17, 18, 19, 20, 21, 22, 3], [(1, 5)]), (7, [4, 5, 6, 8, 9, 10, 11, 12, 13, 14, 15, 16, 17, 18, 19, 20, 21, 3], [(2, 6)]), (8, [4, 5, 6, 7, 10, 11, 12, 13, 14, 15, 16, 17, 18, 19, 20, 21, 22, 3], []), (9, [4, 5, 6, 7, 8, 10, 11, 12, 13, 15, 16, 17, 18, 19, 20, 21, 22, 3], [(4, 8)]), (10, [4, 5, 6, 7, 8, 9, 12, 13, 14, 15, 16, 17, 18, 19, 20, 21, 22, 3], []), (11, [4, 5, 6, 7, 8, 9, 10, 13, 14, 15, 16, 17, 18, 19, 20, 21, 22, 3], [(6, 10)]), (12, [4, 5, 6, 7, 8, 9, 10, 11, 14, 15, 16, 17, 18, 19, 20, 21, 22, 3], [(7, 11)]), (13, [4, 5, 6, 7, 8, 9, 10, 11, 12, 15, 16, 17, 18, 19, 20, 21, 22, 3], [(8, 12)]), (14, [4, 5, 6, 7, 8, 9, 10, 11, 12, 13, 15, 16, 17, 18, 19, 20, 21, 3], [(5, 9), (9, 13)]), (15, [4, 5, 6, 7, 8, 9, 10, 11, 12, 13, 14, 17, 18, 19, 20, 21, 22, 3], []), (16, [4, 5, 6, 7, 8, 9, 10, 11, 12, 13, 14, 15, 17, 18, 19, 20, 22, 3], [(11, 15)]), (17, [4, 5, 6, 7, 8, 9, 10, 11, 12, 13, 14, 15, 16, 19, 20, 21, 22, 3], []), (18, [4, 5, 6, 7, 8, 9, 10, 11, 12, 13, 14, 15, 16, 17, 20, 21, 22, 3], [(13, 17)]), (19, [4, 5, 6, 7, 8, 9, 10, 11, 12, 13, 14, 15, 16, 17, 18, 21, 22, 3], [(14, 18)]), (20, [4, 5, 6, 7, 8, 9, 10, 11, 12, 13, 14, 15, 16, 17, 18, 19, 22, 3], [(15, 19)]), (21, [4, 5, 6, 7, 8, 9, 10, 11, 12, 13, 14, 15, 16, 17, 18, 19, 20, 3], [(12, 16), (16, 20)]), (22, [4, 5, 6, 7, 8, 9, 10, 11, 12, 13, 14, 15, 16, 17, 18, 19, 20, 21, 3], [(3, 7), (10, 14), (17, 21)]), (3, [4, 5, 6, 7, 8, 9, 10, 11, 12, 13, 14, 15, 16, 17, 18, 19, 20, 21, 22], [])]
    29 rfl (by kernel_rfl) (by kernel_rfl) (fun i v W => match i with
      | 0 => v = .pointer (some ⟨w.heap.size, 0, none⟩)
      | 1 => v = .int .i64 k
      | 2 => v = .int .i64 (kk : Int)
      | 3 => v = .int .i64 (1 + (kk : Int))
      | 4 => v = .pointer (some ⟨w.heap.size, 1, none⟩)
      | 5 => v = .string key
      | 6 => v = .pointer (some ⟨w.heap.size, 1, none⟩)
      | 7 => v = .string key
      | 8 => v = .int .i64 (key.size : Nat)
      | 9 => v = .int .i64 (min key.size 40 : Nat)
      | 10 => v = .string (key.extract 0 (min key.size 40))
      | 11 => v = .pointer (some ⟨w.heap.size, 2, none⟩)
      | 12 => v = .slice A m c
      | 13 => v = .pointer (some ⟨w.heap.size, 2, none⟩)
      | 14 => v = .slice A m c
      | 15 => v = .int .i64 (m : Nat)
      | 16 => v = .int .i64 (min m 60 : Nat)
      | 17 => v = .slice A' (min m 60) c
      | 18 => v = .agg #[.int .i64 (1 + (kk : Int)), .string (key.extract 0 (min key.size 40)), .slice A' (min m 60) c]
      | 19 => ∃ g, v = .pointer (some ⟨g, 0, none⟩) ∧ ((w.alloc (.cells #[.int .i64 k, .string key, .slice A m c] 25)).alloc (.cells #[.int .i64 0, .string ByteArray.empty, .slice none 0 0] 25)).heap.size ≤ g ∧ W.heap[g]? = some En0
      | _ => True) ?ol ?oo ?oh 25 (.tmp 3) (.tmp 22) ?op ?oq)
  case oh => exact rfl
  case op => exact rfl
  case ol =>
    refine ⟨?_, ?_, ?_, ?_, ?_, ?_, ?_, ?_, ?_, ?_, ?_, ?_, ?_, ?_, ?_, ?_, ?_, ?_, ?_, ?_, trivial⟩
    · intro us W hW hE K' hK'
      simp only [fillT, Act.put, List.setIfInBounds_toArray, List.set_cons_zero, List.set_cons_succ] at hK' ⊢
      clear hE
      go_wp2_with fail
      exact hK' _ _ (Below.refl _ _) (fun _ _ => rfl)
    · intro us W hW hE K' hK'
      have h0 : us 4 = .pointer (some ⟨w.heap.size, 0, none⟩) := hE.1
      have hc := cell_step (W := ((w.alloc (.cells #[.int .i64 k, .string key, .slice A m c] 25)).alloc (.cells #[.int .i64 0, .string ByteArray.empty, .slice none 0 0] 25)).drew) hc0 hW
      simp only [fillT, Act.put, List.setIfInBounds_toArray, List.set_cons_zero, List.set_cons_succ] at hK' ⊢
      rw [h0] at hK' ⊢
      clear hE h0
      go_wp2_with fail
      exact hK' _ _ (Below.refl _ _) (fun _ _ => rfl)
    · intro us W hW hE K' hK'
      have h0 : us 5 = .int .i64 k := hE.1
      simp only [fillT, Act.put, List.setIfInBounds_toArray, List.set_cons_zero, List.set_cons_succ] at hK' ⊢
      rw [h0] at hK' ⊢
      clear hE h0
      go_wp2_with fail
      exact hK' _ _ (Below.refl _ _) (fun _ _ => rfl)
    · intro us W hW hE K' hK'
      have h0 : us 6 = .int .i64 (kk : Int) := hE.1
      simp only [fillT, Act.put, List.setIfInBounds_toArray, List.set_cons_zero, List.set_cons_succ] at hK' ⊢
      rw [h0] at hK' ⊢
      clear hE h0
      go_wp2_with fail
      exact hK' _ _ (Below.refl _ _) (fun _ _ => rfl)
    · intro us W hW hE K' hK'
      simp only [fillT, Act.put, List.setIfInBounds_toArray, List.set_cons_zero, List.set_cons_succ] at hK' ⊢
      clear hE
      go_wp2_with fail
      exact hK' _ _ (Below.refl _ _) (fun _ _ => rfl)
    · intro us W hW hE K' hK'
      have h0 : us 8 = .pointer (some ⟨w.heap.size, 1, none⟩) := hE.1
      have hc := cell_step (W := ((w.alloc (.cells #[.int .i64 k, .string key, .slice A m c] 25)).alloc (.cells #[.int .i64 0, .string ByteArray.empty, .slice none 0 0] 25)).drew) hc1 hW
      simp only [fillT, Act.put, List.setIfInBounds_toArray, List.set_cons_zero, List.set_cons_succ] at hK' ⊢
      rw [h0] at hK' ⊢
      clear hE h0
      go_wp2_with fail
      exact hK' _ _ (Below.refl _ _) (fun _ _ => rfl)
    · intro us W hW hE K' hK'
      simp only [fillT, Act.put, List.setIfInBounds_toArray, List.set_cons_zero, List.set_cons_succ] at hK' ⊢
      clear hE
      go_wp2_with fail
      exact hK' _ _ (Below.refl _ _) (fun _ _ => rfl)
    · intro us W hW hE K' hK'
      have h0 : us 10 = .pointer (some ⟨w.heap.size, 1, none⟩) := hE.1
      have hc := cell_step (W := ((w.alloc (.cells #[.int .i64 k, .string key, .slice A m c] 25)).alloc (.cells #[.int .i64 0, .string ByteArray.empty, .slice none 0 0] 25)).drew) hc1 hW
      simp only [fillT, Act.put, List.setIfInBounds_toArray, List.set_cons_zero, List.set_cons_succ] at hK' ⊢
      rw [h0] at hK' ⊢
      clear hE h0
      go_wp2_with fail
      exact hK' _ _ (Below.refl _ _) (fun _ _ => rfl)
    · intro us W hW hE K' hK'
      have h0 : us 11 = .string key := hE.1
      simp only [fillT, Act.put, List.setIfInBounds_toArray, List.set_cons_zero, List.set_cons_succ] at hK' ⊢
      rw [h0] at hK' ⊢
      clear hE h0
      go_wp2_with fail
      exact hK' _ _ (Below.refl _ _) (fun _ _ => rfl)
    · intro us W hW hE K' hK'
      have h0 : us 12 = .int .i64 (key.size : Nat) := hE.1
      simp only [fillT, Act.put, List.setIfInBounds_toArray, List.set_cons_zero, List.set_cons_succ] at hK' ⊢
      rw [h0] at hK' ⊢
      clear hE h0
      go_wp2_with fail
      all_goals exact hK' _ _ (Below.refl _ _) (fun _ _ => congrArg (Value.int .i64) (by omega))
    · intro us W hW hE K' hK'
      have h0 : us 9 = .string key := hE.1
      have h1 : us 13 = .int .i64 (min key.size 40 : Nat) := hE.2.1
      simp only [fillT, Act.put, List.setIfInBounds_toArray, List.set_cons_zero, List.set_cons_succ] at hK' ⊢
      rw [h0, h1] at hK' ⊢
      clear hE h0 h1
      go_wp2_with fail
      exact hK' _ _ (Below.refl _ _) (fun _ _ => rfl)
    · intro us W hW hE K' hK'
      simp only [fillT, Act.put, List.setIfInBounds_toArray, List.set_cons_zero, List.set_cons_succ] at hK' ⊢
      clear hE
      go_wp2_with fail
      exact hK' _ _ (Below.refl _ _) (fun _ _ => rfl)
    · intro us W hW hE K' hK'
      have h0 : us 15 = .pointer (some ⟨w.heap.size, 2, none⟩) := hE.1
      have hc := cell_step (W := ((w.alloc (.cells #[.int .i64 k, .string key, .slice A m c] 25)).alloc (.cells #[.int .i64 0, .string ByteArray.empty, .slice none 0 0] 25)).drew) hc2 hW
      simp only [fillT, Act.put, List.setIfInBounds_toArray, List.set_cons_zero, List.set_cons_succ] at hK' ⊢
      rw [h0] at hK' ⊢
      clear hE h0
      go_wp2_with fail
      exact hK' _ _ (Below.refl _ _) (fun _ _ => rfl)
    · intro us W hW hE K' hK'
      simp only [fillT, Act.put, List.setIfInBounds_toArray, List.set_cons_zero, List.set_cons_succ] at hK' ⊢
      clear hE
      go_wp2_with fail
      exact hK' _ _ (Below.refl _ _) (fun _ _ => rfl)
    · intro us W hW hE K' hK'
      have h0 : us 17 = .pointer (some ⟨w.heap.size, 2, none⟩) := hE.1
      have hc := cell_step (W := ((w.alloc (.cells #[.int .i64 k, .string key, .slice A m c] 25)).alloc (.cells #[.int .i64 0, .string ByteArray.empty, .slice none 0 0] 25)).drew) hc2 hW
      simp only [fillT, Act.put, List.setIfInBounds_toArray, List.set_cons_zero, List.set_cons_succ] at hK' ⊢
      rw [h0] at hK' ⊢
      clear hE h0
      go_wp2_with fail
      exact hK' _ _ (Below.refl _ _) (fun _ _ => rfl)
    · intro us W hW hE K' hK'
      have h0 : us 18 = .slice A m c := hE.1
      simp only [fillT, Act.put, List.setIfInBounds_toArray, List.set_cons_zero, List.set_cons_succ] at hK' ⊢
      rw [h0] at hK' ⊢
      clear hE h0
      go_wp2_with fail
      exact hK' _ _ (Below.refl _ _) (fun _ _ => rfl)
    · intro us W hW hE K' hK'
      have h0 : us 19 = .int .i64 (m : Nat) := hE.1
      simp only [fillT, Act.put, List.setIfInBounds_toArray, List.set_cons_zero, List.set_cons_succ] at hK' ⊢
      rw [h0] at hK' ⊢
      clear hE h0
      go_wp2_with fail
      all_goals exact hK' _ _ (Below.refl _ _) (fun _ _ => congrArg (Value.int .i64) (by omega))
    · intro us W hW hE K' hK'
      have h0 : us 16 = .slice A m c := hE.1
      have h1 : us 20 = .int .i64 (min m 60 : Nat) := hE.2.1
      simp only [fillT, Act.put, List.setIfInBounds_toArray, List.set_cons_zero, List.set_cons_succ] at hK' ⊢
      rw [h0, h1] at hK' ⊢
      clear hE h0 h1
      go_wp2_with fail
      exact hK' _ _ (Below.refl _ _) (fun _ _ => rfl)
    · intro us W hW hE K' hK'
      have h0 : us 7 = .int .i64 (1 + (kk : Int)) := hE.1
      have h1 : us 14 = .string (key.extract 0 (min key.size 40)) := hE.2.1
      have h2 : us 21 = .slice A' (min m 60) c := hE.2.2.1
      simp only [fillT, Act.put, List.setIfInBounds_toArray, List.set_cons_zero, List.set_cons_succ] at hK' ⊢
      rw [h0, h1, h2] at hK' ⊢
      clear hE h0 h1 h2
      go_wp2_with fail
      exact hK' _ _ (Below.refl _ _) (fun _ _ => rfl)
    · intro us W hW hE K' hK'
      simp only [fillT, Act.put, List.setIfInBounds_toArray, List.set_cons_zero, List.set_cons_succ] at hK' ⊢
      clear hE
      go_wp2_with fail
      exact hK' _ _ (below_al W En0) (fun W'' h => ⟨W.heap.size, rfl, by have := hW.size; simpa using this, (h.block _ (by simp)).trans (heap_alloc_new W En0)⟩)
  case oq =>
    intro us W hW hE
    obtain ⟨h4, h5, h6, h7, h8, h9, h10, h11, h12, h13, h14, h15, h16, h17, h18, h19, h20, h21, h22, ⟨g, h3, hg, hgb⟩, -⟩ := hE
    simp only [List.map_cons, List.map_nil, fillT, Act.put, List.setIfInBounds_toArray, List.set_cons_zero, List.set_cons_succ] at h4 h5 h6 h7 h8 h9 h10 h11 h12 h13 h14 h15 h16 h17 h18 h19 h20 h21 h22 h3 ⊢
    rw [h4, h5, h6, h7, h8, h9, h10, h11, h12, h13, h14, h15, h16, h17, h18, h19, h20, h21, h22, h3]
    clear h4 h5 h6 h7 h8 h9 h10 h11 h12 h13 h14 h15 h16 h17 h18 h19 h20 h21 h22 h3
    have hth := there_block hgb
    refine store3 g (1 + (kk : Int)) (key.extract 0 (min key.size 40)) A' (min m 60) c rfl rfl hth ?_
    have hgb2 := sets3 hgb (.int .i64 (1 + (kk : Int))) (.string (key.extract 0 (min key.size 40))) (.slice A' (min m 60) c)
    have hBW : Below w.heap.size w W := below_then hB (undrew hW)
    have hgw : w.heap.size + 2 ≤ g := by simpa using hg
    have hr0 : W.heap[w.heap.size + 1]? = some En0 := ((undrew hW).block _ (by simp)).trans k0
    have hr1 := (grown_diff (b := 0) (i := w.heap.size + 1) (grown_sets g [.int .i64 (1 + (kk : Int)), .string (key.extract 0 (min key.size 40)), .slice A' (min m 60) c] 0 W) (by omega) (Array.getElem?_eq_some_iff.1 hr0).1).trans hr0
    have hBU := setCells_below (B := w.heap.size) g (by omega) [.int .i64 (1 + (kk : Int)), .string (key.extract 0 (min key.size 40)), .slice A' (min m 60) c] 0 W hBW
    have hbU := bs_apart (htr _ _ (hb.below hBW)) (grown_sets g [.int .i64 (1 + (kk : Int)), .string (key.extract 0 (min key.size 40)), .slice A' (min m 60) c] 0 W) hgb (no_u8 _ _ _)
    generalize W.setCells g 0 [.int .i64 (1 + (kk : Int)), .string (key.extract 0 (min key.size 40)), .slice A' (min m 60) c] = U at *
    have cg1 := cell_of_row U g 1 _ 25 (0, 0) hgb2
    have hrg : U.rangeAt g 0 [.int .i64 (1 + (kk : Int)), .string (key.extract 0 (min key.size 40)), .slice A' (min m 60) c] := World.rangeAt_of_block hgb2 0 3
    have hthr := there_block hr1
    have hks2 : (key.extract 0 (min key.size 40)).size = min key.size 40 := by simp
    generalize key.extract 0 (min key.size 40) = key2 at *
    by_cases hk0 : key.size = 0
    · have hk2 : key2.size = 0 := by rw [hks2]; omega
      have hne : ((key2.size : Int) == 0) = true := beq_iff_eq.2 (by omega)
      have hf1 : U.frozen? ⟨g, 1, none⟩ = false := by simp [World.frozen?, hgb2]
      have hg2 := heap_setCell_same U g 1 _ 25 (.string ⟨#[107]⟩) hgb2
      have hrg2 : (U.setCell ⟨g, 1, none⟩ (.string ⟨#[107]⟩)).rangeAt g 0 [.int .i64 (1 + (kk : Int)), .string ⟨#[107]⟩, .slice A' (min m 60) c] := World.rangeAt_of_block hg2 0 3
      have hgr := grown_set U g 1 (.string ⟨#[107]⟩)
      have hr2 := (grown_diff (b := 0) (i := w.heap.size + 1) hgr (by omega) (Array.getElem?_eq_some_iff.1 hr1).1).trans hr1
      have hthr2 := there_block hr2
      have hbU2 := bs_apart hbU hgr hgb2 (no_u8 _ _ _)
      have hBU2 := hBU.setCell (p := ⟨g, 1, none⟩) (by show w.heap.size ≤ g; omega) (.string ⟨#[107]⟩)
      go_wp2_with (first | ((with_reducible refine load3 g (1 + (kk : Int)) ⟨#[107]⟩ A' (min m 60) c ?_ ?_ ?_); exact rfl; exact hrg2) | ((with_reducible refine store3 (w.heap.size + 1) (1 + (kk : Int)) ⟨#[107]⟩ A' (min m 60) c ?_ ?_ ?_ ?_); exact rfl; exact rfl; exact hthr2))
      refine bodyPost_ret (results_cell_mid rfl _ _ (w.heap.size + 1) 0 [.int .i64 (1 + (kk : Int)), .string ⟨#[107]⟩, .slice A' (min m 60) c] _ rfl (World.rangeAt_setCells_same _ _ _ _ hthr2) Tryd.underlying25 rfl info25) rfl ?_
      refine ⟨⟨⟨1 + (kk : Int), [107], body.take (min m 60)⟩, A', min m 60, c, 0, none⟩, rfl, ?_, fun W0 h => htr W0 _ h, rfl, setCells_below _ (by omega) _ _ _ hBU2⟩
      have hl2 := hb.len
      simp [VE, vldE]
      omega
    · have hk2 : key2.size ≠ 0 := by rw [hks2]; omega
      have hne : ((key2.size : Int) == 0) = false := beq_eq_false_iff_ne.2 (by omega)
      go_wp2_with (first | ((with_reducible refine load3 g (1 + (kk : Int)) key2 A' (min m 60) c ?_ ?_ ?_); exact rfl; exact hrg) | ((with_reducible refine store3 (w.heap.size + 1) (1 + (kk : Int)) key2 A' (min m 60) c ?_ ?_ ?_ ?_); exact rfl; exact rfl; exact hthr))
      refine bodyPost_ret (results_cell_mid rfl _ _ (w.heap.size + 1) 0 [.int .i64 (1 + (kk : Int)), .string key2, .slice A' (min m 60) c] _ rfl (World.rangeAt_setCells_same _ _ _ _ hthr) Tryd.underlying25 rfl info25) rfl ?_
      refine ⟨⟨⟨1 + (kk : Int), strB key2, body.take (min m 60)⟩, A', min m 60, c, 0, none⟩, rfl, ?_, fun W0 h => htr W0 _ h, rfl, setCells_below _ (by omega) _ _ _ hBU⟩
      have hl := strB_length key2
      have hl2 := hb.len
      simp [VE, vldE, hl, hks2]
      omega
end Go.Proofs.YtcohgkiloaapcaaDoor

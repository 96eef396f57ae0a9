/- Contracts: the reference's ValidEntry, EncodeEntry, ChainHash. -/
import Derived.Test.YtcohgkiloaapcaaDoorH1
namespace Go.Proofs.YtcohgkiloaapcaaDoor
open Go.RowKit

set_option maxRecDepth 20000 in
theorem refValid (k : Int) (key : ByteArray) (A : Option Addr) (n c : Nat) (w : World) (r : Bool) (hr : r = vldE k key.size n) :
    Calls Tryd.prog 30 #[.agg #[.int .i64 k, .string key, .slice A n c]] w fun e w' => e = .returned (.bool r) ∧ Below w.heap.size w w' := by
  have hB := below_al w (.cells #[.int .i64 k, .string key, .slice A n c] 25)
  have hR := Lib.hid hr
  clear hr
  go_enter Tryd.func30, Tryd.ntmps30
  go_wp2_with fail
  all_goals go_ret
  all_goals refine ⟨ret_bool ?_, hB⟩
  all_goals (rw [hR.out, Bool.eq_iff_iff]; simp [vldE]; try omega)

set_option maxRecDepth 20000 in
theorem refEnc_no (k : Int) (key : ByteArray) (A : Option Addr) (n c : Nat) (w : World) (h : vldE k key.size n = false) :
    Calls Tryd.prog 38 #[.agg #[.int .i64 k, .string key, .slice A n c]] w fun e w' => e = .returned (.tuple #[.slice none 0 0, .int .i64 1]) ∧ Below w.heap.size w w' := by
  have hB := below_al w (.cells #[.int .i64 k, .string key, .slice A n c] 25)
  go_enter Tryd.func38, Tryd.ntmps38
  go_wp2_with (go_at_call 30; go_must (refine (refValid _ _ _ _ _ _ false h.symm).mono ?_); rintro e w1 ⟨rfl, hB1⟩)
  exact bodyPost_ret (results_tmp2 rfl _ _ _) rfl ⟨rfl, below_then hB hB1⟩

set_option maxRecDepth 20000 in
set_option maxHeartbeats 1000000 in
theorem refEnc_yes (k : Nat) (key : ByteArray) (A : Option Addr) (n c : Nat) (body : List UInt8) (w : World) (hb : Bs w A n c body) (h : vldE k key.size n = true) (zs : List UInt8) (hz : zs = encE k (strB key) body) :
    Calls Tryd.prog 38 #[.agg #[.int .i64 k, .string key, .slice A n c]] w (RetB2 5 zs (.int .i64 0) w) := by
  have hZ := Lib.hid hz
  clear hz
  have hv : (1 ≤ k ∧ k ≤ 4) ∧ 1 ≤ key.size ∧ key.size ≤ 40 ∧ n ≤ 20000 := by simp [vldE] at h; omega
  have hks := strB_length key
  have hlen := Lib.hid hb.len
  have hl1 : (vEnc (2 * k)).length ≤ 10 := vEnc_len 9 _ (by omega)
  have hl2 : (vEnc (2 * key.size)).length ≤ 10 := vEnc_len 9 _ (by omega)
  have hl3 : (vEnc (2 * n)).length ≤ 10 := vEnc_len 9 _ (by omega)
  have hcv := fun W => Lib.run_convert_string_bytes (P := Tryd.prog) W 9 22 5 key Tryd.underlying9 Tryd.underlying22 Tryd.underlying5
  have hB := below_al w (.cells #[.int .i64 k, .string key, .slice A n c] 25)
  have hnew := heap_alloc_new w (.cells #[.int .i64 k, .string key, .slice A n c] 25)
  have hcell : ∀ W : World, Below (w.alloc (.cells #[.int .i64 k, .string key, .slice A n c] 25)).heap.size (w.alloc (.cells #[.int .i64 k, .string key, .slice A n c] 25)) W → W.cell? ⟨w.heap.size, 0, none⟩ = some (.int .i64 k) ∧ W.cell? ⟨w.heap.size, 1, none⟩ = some (.string key) ∧ W.cell? ⟨w.heap.size, 2, none⟩ = some (.slice A n c) := fun W hW => by
    have hh := (hW.block w.heap.size (by simp)).trans hnew
    exact ⟨cell_of_row W _ 0 _ 25 (0, 0) hh, cell_of_row W _ 1 _ 25 (0, 0) hh, cell_of_row W _ 2 _ 25 (0, 0) hh⟩
  have hsz : (w.alloc (.cells #[.int .i64 k, .string key, .slice A n c] 25)).heap.size = w.heap.size + 1 := by simp
  have hBs := Lib.hid hb
  clear hb
  go_enter Tryd.func38, Tryd.ntmps38
  go_wp2_with (first | (go_at_call 30; go_must (refine (refValid _ _ _ _ _ _ true h.symm).mono ?_); rintro e w1 ⟨rfl, hB1⟩; obtain ⟨d0, d1, d2⟩ := hcell w1 hB1; have hcA := refVarint none 0 0 [] k w1 (Bs.nil _ _ _ (by decide)) (by omega) (by omega) _ rfl) | (go_at_call 54; refine hcA.mono ?_; clear hcA; rintro e w2 ⟨A2, n2, c2, rfl, hL2, hB2, hown2⟩; have hB12 := below_then hB1 hB2; obtain ⟨d3, d4, d5⟩ := hcell w2 hB12; have hcB := refVarint A2 n2 c2 _ key.size w2 (Bs.own hown2) (by omega) (by have := hL2.out; simp at this; omega) _ rfl) | (go_at_call 54; refine hcB.mono ?_; clear hcB; rintro e w3 ⟨A3, n3, c3, rfl, hL3, hB3, hown3⟩; have hB13 := below_then hB12 hB3; obtain ⟨d6, d7, d8⟩ := hcell w3 hB13; have hBw3 := below_then hB hB13; have hown3' := own_lower hown3 hB12.size) | (at_builtin; refine wpList_of_append rfl _ _ 22 rfl rfl rfl (run_own (w.alloc (.cells #[.int .i64 k, .string key, .slice A n c] 25)) _ 22 22 5 (.int .u8 0) 1 1 Tryd.underlying22 info5 rfl (by decide) (by decide) _ _ _ (own_below hown3' (below_bytes _ 5 key)) (below_then hB13 (below_bytes _ 5 key)) _ _ _ (bys (strB key)) ?_ (bs_conv _ 5 key ?_).rd (bys_one _) ?_) ?_))
  · rw [bys_length, hks]; simp
  · omega
  · have := hL3.out; simp at this; omega
  · intro v4 w4 hown4 hB4
    have hB4 : Below (w.alloc (.cells #[.int .i64 k, .string key, .slice A n c] 25)).heap.size (w.alloc (.cells #[.int .i64 k, .string key, .slice A n c] 25)) w4 := by rw [hsz]; exact hB4
    obtain ⟨A4, c4, rfl, -, -⟩ := own_shape hown4
    obtain ⟨g0, g1, g2⟩ := hcell w4 hB4
    rw [← bys_append] at hown4
    have hn3 : n3 ≤ 20 := by have := hL3.out; simp at this; omega
    have hcC := refVarint A4 (n3 + key.size) c4 _ n w4 (Bs.own hown4) (by omega) (by omega) _ rfl
    clear hL2 hB2 hown2 hB12 d3 d4 d5 hL3 hB3 hown3 hB13 d6 d7 d8 hBw3 hown3'
    go_wp2_with (first | (go_at_call 54; refine hcC.mono ?_; clear hcC; rintro e w5 ⟨A5, n5, c5, rfl, hL5, hB5, hown5⟩; have hB15 := below_then hB4 hB5; obtain ⟨k0, k1, k2⟩ := hcell w5 hB15; have hown5' := own_lower hown5 hB4.size; have hbd := hBs.out.below (below_then hB hB15)) | (at_builtin; refine wpList_of_append rfl _ _ 22 rfl rfl rfl (run_own (w.alloc (.cells #[.int .i64 k, .string key, .slice A n c] 25)) _ 22 22 5 (.int .u8 0) 1 1 Tryd.underlying22 info5 rfl (by decide) (by decide) _ _ _ hown5' hB15 _ _ _ (bys body) ?_ hbd.rd (bys_one _) ?_) ?_))
    · rw [bys_length, hlen.out]; simp
    · have := hL5.out; simp at this; omega
    · intro v6 w6 hown6 hB6
      have hB6 : Below (w.alloc (.cells #[.int .i64 k, .string key, .slice A n c] 25)).heap.size (w.alloc (.cells #[.int .i64 k, .string key, .slice A n c] 25)) w6 := by rw [hsz]; exact hB6
      obtain ⟨A6, c6, rfl, -, -⟩ := own_shape hown6
      go_wp2_with fail
      refine bodyPost_ret (results_tmp2 rfl _ _ _) rfl ?_
      refine RetB2.mk (below_then hB hB6) ?_
      rw [hZ.out, encE, hks, hlen.out]
      rw [← bys_append] at hown6
      have h6 := own_lower hown6 (b' := w.heap.size) (by omega)
      simpa using h6
end Go.Proofs.YtcohgkiloaapcaaDoor

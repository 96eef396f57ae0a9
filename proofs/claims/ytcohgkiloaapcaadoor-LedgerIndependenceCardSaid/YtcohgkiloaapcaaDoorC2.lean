/- Contracts: appendBytes, validEntry, EncodeEntry. -/
import Derived.Test.YtcohgkiloaapcaaDoorC1
import Derived.Test.YtcohgkiloaapcaaDoorR0
namespace Go.Proofs.YtcohgkiloaapcaaDoor
open Go.RowKit

theorem appendBytes (A : Option Addr) (n c : Nat) (xs : List UInt8) (A2 : Option Addr) (n2 c2 : Nat) (ys : List UInt8) (w : World) (zs : List UInt8) (hz : zs = xs ++ vEnc (2 * n2) ++ ys) (hb : Bs w A n c xs) (hb2 : Bs w A2 n2 c2 ys) (hn : n ≤ 1000000) (hn2 : n2 ≤ 1000000) :
    Calls Tryd.prog 51 #[.slice A n c, .slice A2 n2 c2] w (RetB 5 zs w) := by
  have hZ := Lib.hid hz
  clear hz
  have hlen := hb.len
  have hlen2 := hb2.len
  have hL : (vEnc (2 * n2)).length ≤ 10 := vEnc_len 9 _ (by omega)
  go_enter Tryd.func51, Tryd.ntmps51
  go_wp2_with (first | (go_at_call 52; go_must (refine (appendVarint _ _ _ _ _ _ hb (by omega) (by omega)).mono ?_); rintro e w1 ⟨A1, n1, c1, rfl, hL1, hB, hown⟩) | (at_builtin; go_must (refine wpList_of_append rfl _ _ 22 rfl rfl rfl (run_own w _ 22 22 5 (.int .u8 0) 1 1 Tryd.underlying22 info5 rfl (by decide) (by decide) _ _ _ hown hB _ _ _ (bys ys) (by rw [bys_length]; omega) (hb2.rd.below hB) (bys_one _) (by have := hL1.out; simp at this; omega)) ?_)))
  intro v' w' hown' hB'
  go_wp2
  go_ret
  rw [← bys_append, ← hZ.out] at hown'
  exact RetB.mk hB' hown'

def vldE (k : Int) (kl bl : Nat) : Bool := decide (1 ≤ k ∧ k ≤ 4 ∧ 1 ≤ kl ∧ kl ≤ 40 ∧ bl ≤ 20000)

theorem validEntry (k : Int) (key : ByteArray) (A : Option Addr) (n c : Nat) (w : World) :
    Calls Tryd.prog 50 #[.agg #[.int .i64 k, .string key, .slice A n c]] w fun e w' => e = .returned (.bool (vldE k key.size n)) ∧ Below w.heap.size w w' := by
  go_enter Tryd.func50, Tryd.ntmps50
  go_wp2
  all_goals
    go_ret
    refine ⟨ret_bool ?_, (Below.refl _ _).alloc (Nat.le_refl _) _⟩
    rw [Bool.eq_iff_iff]
    simp [vldE]
    try omega

/-- An entry's encoding. -/
def encE (k : Nat) (key body : List UInt8) : List UInt8 := vEnc (2 * k) ++ vEnc (2 * key.length) ++ key ++ vEnc (2 * body.length) ++ body

theorem encodeEntry_no (k : Int) (key : ByteArray) (A : Option Addr) (n c : Nat) (w : World) (h : vldE k key.size n = false) :
    Calls Tryd.prog 35 #[.agg #[.int .i64 k, .string key, .slice A n c]] w fun e w' => e = .returned (.tuple #[.slice none 0 0, .int .i64 1]) ∧ Below w.heap.size w w' := by
  go_enter Tryd.func35, Tryd.ntmps35
  go_wp2_with (go_at_call 50; go_must (refine (validEntry _ _ _ _ _ _).mono ?_); rintro e w1 ⟨rfl, hB⟩)
  exact bodyPost_ret (results_tmp2 rfl _ _ _) rfl ⟨rfl, (Below.alloc (Below.refl _ _) (Nat.le_refl _) _).trans (hB.mono (by simp))⟩


theorem encodeEntry_yes (k : Nat) (key : ByteArray) (A : Option Addr) (n c : Nat) (body : List UInt8) (w : World) (hb : Bs w A n c body) (h : vldE k key.size n = true) (zs : List UInt8) (hz : zs = encE k (strB key) body) :
    Calls Tryd.prog 35 #[.agg #[.int .i64 k, .string key, .slice A n c]] w (RetB2 5 zs (.int .i64 0) w) := by
  have hZ := Lib.hid hz
  clear hz
  have hv : (1 ≤ k ∧ k ≤ 4) ∧ 1 ≤ key.size ∧ key.size ≤ 40 ∧ n ≤ 20000 := by simp [vldE] at h; omega
  have hks := strB_length key
  have hlen := hb.len
  have hl1 : (vEnc (2 * k)).length ≤ 10 := vEnc_len 9 _ (by omega)
  have hl2 : (vEnc (2 * key.size)).length ≤ 10 := vEnc_len 9 _ (by omega)
  have hcv := fun W => Lib.run_convert_string_bytes (P := Tryd.prog) W 9 22 5 key Tryd.underlying9 Tryd.underlying22 Tryd.underlying5
  go_enter Tryd.func35, Tryd.ntmps35
  go_wp2_with (go_at_call 50; go_must (refine (validEntry _ _ _ _ _ _).mono ?_); rintro e w1 ⟨rfl, hB⟩)
  have hB1 : Below w.heap.size w w1 := (Below.alloc (Below.refl _ _) (Nat.le_refl _) _).trans (hB.mono (by simp))
  have hc0 : w1.cell? ⟨w.heap.size, 0, none⟩ = some (.int .i64 k) := cell_new w w1 _ _ 25 rfl hB 0 _ rfl
  have hc1 : w1.cell? ⟨w.heap.size, 1, none⟩ = some (.string key) := cell_new w w1 _ _ 25 rfl hB 1 _ rfl
  have hc2 : w1.cell? ⟨w.heap.size, 2, none⟩ = some (.slice A n c) := cell_new w w1 _ _ 25 rfl hB 2 _ rfl
  refine wp_region_mono (by kernel_rfl)
    [(8, [10, 11, 12, 13, 14], []), (9, [8, 11, 12, 13, 14], [(0, 8)]), (10, [8, 9, 11, 12, 13], [(1, 9)]), (11, [8, 9, 10, 13, 14], []), (12, [8, 9, 10, 11, 14], [(3, 11)]), (13, [8, 9, 10, 11, 12], [(4, 12)]), (14, [8, 9, 10, 11, 12, 13], [(2, 10), (5, 13)]), (4, [8, 9, 10, 11, 12, 13, 14], [(0, 8), (1, 9), (2, 10), (3, 11), (4, 12), (5, 13), (6, 14)])]
    (by kernel_rfl) (fun i v W => match i with
      | 0 => v = .pointer (some ⟨w.heap.size, 0, none⟩)
      | 1 => v = .int .i64 k
      | 2 => ∃ A n c, v = .slice A n c ∧ Bs W A n c (vEnc (2 * k))
      | 3 => v = .pointer (some ⟨w.heap.size, 1, none⟩)
      | 4 => v = .string key
      | 5 => ∃ A n c, v = .slice A n c ∧ Bs W A n c (strB key)
      | 6 => ∃ A n c, v = .slice A n c ∧ Bs W A n c (vEnc (2 * k) ++ vEnc (2 * key.size) ++ strB key)
      | 7 => ∃ A n c, v = .slice A n c ∧ Bs W A n c (vEnc (2 * k) ++ vEnc (2 * key.size) ++ strB key)
      | _ => True) (by simp) ?_ ?_
  · refine ⟨?_, ?_, ?_, ?_, ?_, ?_, ?_, ?_, trivial⟩
    · intro us W hW hE K' hK'
      simp only [fillT, Act.put, List.setIfInBounds_toArray, List.set_cons_zero, List.set_cons_succ] at hK' ⊢
      clear hE
      go_wp2_with fail
      exact hK' _ _ (Below.refl _ _) (fun _ _ => rfl)
    · intro us W hW hE K' hK'
      have h0 : us 8 = .pointer (some ⟨w.heap.size, 0, none⟩) := hE.1
      have hc := cell_step (W := w1.drew) hc0 hW
      simp only [fillT, Act.put, List.setIfInBounds_toArray, List.set_cons_zero, List.set_cons_succ] at hK' ⊢
      rw [h0] at hK' ⊢
      clear hE h0
      go_wp2_with fail
      exact hK' _ _ (Below.refl _ _) (fun _ _ => rfl)
    · intro us W hW hE K' hK'
      have h0 : us 9 = .int .i64 k := hE.1
      simp only [fillT, Act.put, List.setIfInBounds_toArray, List.set_cons_zero, List.set_cons_succ] at hK' ⊢
      rw [h0] at hK' ⊢
      clear hE h0
      go_wp2_with (go_at_call 52; go_must (refine (appendVarint none 0 0 [] k _ (Bs.nil _ _ _ (by decide)) (by omega) (by omega)).mono ?_); rintro e w2 ⟨A2, n2, c2, rfl, hL2, hB2, hown2⟩)
      exact hK' _ _ hB2 (fun _ h => ⟨_, _, _, rfl, (Bs.own hown2).below h⟩)
    · intro us W hW hE K' hK'
      simp only [fillT, Act.put, List.setIfInBounds_toArray, List.set_cons_zero, List.set_cons_succ] at hK' ⊢
      clear hE
      go_wp2_with fail
      exact hK' _ _ (Below.refl _ _) (fun _ _ => rfl)
    · intro us W hW hE K' hK'
      have h0 : us 11 = .pointer (some ⟨w.heap.size, 1, none⟩) := hE.1
      have hc := cell_step (W := w1.drew) hc1 hW
      simp only [fillT, Act.put, List.setIfInBounds_toArray, List.set_cons_zero, List.set_cons_succ] at hK' ⊢
      rw [h0] at hK' ⊢
      clear hE h0
      go_wp2_with fail
      exact hK' _ _ (Below.refl _ _) (fun _ _ => rfl)
    · intro us W hW hE K' hK'
      have h0 : us 12 = .string key := hE.1
      simp only [fillT, Act.put, List.setIfInBounds_toArray, List.set_cons_zero, List.set_cons_succ] at hK' ⊢
      rw [h0] at hK' ⊢
      clear hE h0
      go_wp2_with fail
      exact hK' _ _ (below_bytes _ _ _) (fun _ h => ⟨_, _, _, rfl, (bs_conv _ _ _ (by omega)).below h⟩)
    · intro us W hW hE K' hK'
      obtain ⟨A2, n2, c2, h2, hb2⟩ : ∃ A n c, us 10 = .slice A n c ∧ Bs W A n c (vEnc (2 * k)) := hE.1
      obtain ⟨A3, n3, c3, h3, hb3⟩ : ∃ A n c, us 13 = .slice A n c ∧ Bs W A n c (strB key) := hE.2.1
      have hl2 := Lib.hid hb2.len
      have hl3 := Lib.hid hb3.len
      simp only [fillT, Act.put, List.setIfInBounds_toArray, List.set_cons_zero, List.set_cons_succ] at hK' ⊢
      rw [h2, h3] at hK' ⊢
      clear hE h2 h3
      go_wp2_with (go_at_call 51; go_must (refine (appendBytes _ _ _ _ _ _ _ _ _ _ rfl hb2 hb3 (by have := hl2.out; omega) (by have := hl3.out; omega)).mono ?_); rintro e w2 ⟨A4, n4, c4, rfl, hL4, hB4, hown4⟩)
      exact hK' _ _ hB4 (fun _ h => ⟨_, _, _, rfl, by have := (Bs.own hown4).below h; rwa [show n3 = key.size by have := hl3.out; omega] at this⟩)
    · intro us W hW hE K' hK'
      obtain ⟨A2, n2, c2, h2, hb2⟩ : ∃ A n c, us 14 = .slice A n c ∧ Bs W A n c (vEnc (2 * k) ++ vEnc (2 * key.size) ++ strB key) := hE.2.2.2.2.2.2.1
      simp only [fillT, Act.put, List.setIfInBounds_toArray, List.set_cons_zero, List.set_cons_succ] at hK' ⊢
      rw [h2] at hK' ⊢
      clear hE h2
      go_wp2_with fail
      exact hK' _ _ (Below.refl _ _) (fun _ h => ⟨_, _, _, rfl, hb2.below h⟩)
  · intro us W hW hE
    obtain ⟨h8, h9, -, h11, h12, -, -, ⟨A7, n7, c7, h7, hb7⟩, -⟩ := hE
    have hc := cell_step (W := w1.drew) hc2 hW
    have hBW : Below w.heap.size w W := hB1.trans ((undrew hW).mono hB1.size)
    have hb' := hb.below hBW
    have hl7 := Lib.hid hb7.len
    simp only [List.map_cons, List.map_nil, fillT, Act.put, List.setIfInBounds_toArray, List.set_cons_zero, List.set_cons_succ] at h7 ⊢
    rw [h7]
    clear h h8 h9 h11 h12 h7 hW hB hb
    go_wp2_with (go_at_call 51; go_must (refine (appendBytes _ _ _ _ _ _ _ _ _ _ rfl hb7 hb' (by have := hl7.out; simp at this; omega) (by omega)).mono ?_); rintro e w2 ⟨A4, n4, c4, rfl, hL4, hB4, hown4⟩)
    refine bodyPost_ret (results_tmp2 rfl _ _ _) rfl ?_
    refine RetB2.mk (hBW.trans (hB4.mono hBW.size)) ?_
    rw [hZ.out]
    have := own_lower hown4 (b' := w.heap.size) hBW.size
    rw [encE, hlen, hks]
    exact this
end Go.Proofs.YtcohgkiloaapcaaDoor

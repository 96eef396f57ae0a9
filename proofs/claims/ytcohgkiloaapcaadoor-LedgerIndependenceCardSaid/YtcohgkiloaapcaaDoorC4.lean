/- Contracts: putWord, record, Grow, Concat, Clone, Append. -/
import Derived.Test.YtcohgkiloaapcaaDoorC3
import Derived.Lib.AppendZeros
namespace Go.Proofs.YtcohgkiloaapcaaDoor
open Go.RowKit

theorem bys_le4 (x : Nat) : bys (le4 x) = [.int .u8 ((x : Int) % 256), .int .u8 ((x : Int) / 256 % 256), .int .u8 ((x : Int) / 65536 % 256), .int .u8 ((x : Int) / 16777216 % 256)] := by
  simp [bys, by8, le4]

theorem putWord (w0 : World) (A : Option Addr) (n c : Nat) (xs : List UInt8) (x : Nat) (w : World) (zs : List UInt8) (hz : zs = xs ++ le4 x) (hown : w.ownsRow w0.heap.size 5 1 (.slice A n c) n (bys xs)) (hB : Below w0.heap.size w0 w) (hn : n ≤ 1000000000) :
    Calls Tryd.prog 37 #[.slice A n c, .int .u32 x] w (RetB 5 zs w0) := by
  have hZ := Lib.hid hz
  clear hz
  go_enter Tryd.func37, Tryd.ntmps37
  go_wp2_with (at_builtin; go_must (refine wpList_of_append rfl _ _ 22 rfl rfl rfl (run_own w0 _ 22 22 5 (.int .u8 0) 1 1 Tryd.underlying22 info5 rfl (by decide) (by decide) _ _ _ (hown.alloc _) (hB.alloc hB.size _) _ 4 4 [_, _, _, _] rfl (Rd.new _ _ _ _) (by simp [Value.oneCell']) (by omega)) ?_))
  intro v' w' hown' hB'
  go_wp2
  go_ret
  rw [← bys_le4, ← bys_append, ← hZ.out] at hown'
  exact RetB.mk hB' hown'

/-- An entry's record. -/
def recB (enc : List UInt8) : List UInt8 := (le4 enc.length ++ enc) ++ le4 (crc (le4 enc.length ++ enc))

theorem record_no (k : Int) (key : ByteArray) (A : Option Addr) (n c : Nat) (w : World) (h : vldE k key.size n = false) :
    Calls Tryd.prog 28 #[.agg #[.int .i64 k, .string key, .slice A n c]] w fun e w' => e = .returned (.tuple #[.slice none 0 0, .int .i64 1]) ∧ Below w.heap.size w w' := by
  go_enter Tryd.func28, Tryd.ntmps28
  go_wp2_with (go_at_call 35; go_must (refine (encodeEntry_no _ _ _ _ _ _ h).mono ?_); rintro e w1 ⟨rfl, hB⟩)
  exact bodyPost_ret (results_tmp2 rfl _ _ _) rfl ⟨rfl, (Below.alloc (Below.refl _ _) (Nat.le_refl _) _).trans (hB.mono (by simp))⟩

theorem record_yes (k : Nat) (key : ByteArray) (A : Option Addr) (n c : Nat) (body : List UInt8) (w : World) (hb : Bs w A n c body) (h : vldE k key.size n = true) (zs : List UInt8) (hz : zs = recB (encE k (strB key) body)) :
    Calls Tryd.prog 28 #[.agg #[.int .i64 k, .string key, .slice A n c]] w (RetB2 5 zs (.int .i64 0) w) := by
  have hZ := Lib.hid hz
  clear hz
  have hb1 := hb.below ((Below.refl _ w).alloc (Nat.le_refl _) (.cells #[.int .i64 k, .string key, .slice A n c] 25))
  have hel : (encE k (strB key) body).length ≤ 21000 := by
    have hv : (1 ≤ k ∧ k ≤ 4) ∧ 1 ≤ key.size ∧ key.size ≤ 40 ∧ n ≤ 20000 := by simp [vldE] at h; omega
    have h1 := strB_length key
    have h2 := hb.len
    have h3 := vEnc_len 9 (2 * k) (by omega)
    have h4 := vEnc_len 9 (2 * (strB key).length) (by omega)
    have h5 := vEnc_len 9 (2 * body.length) (by omega)
    simp [encE]; omega
  go_enter Tryd.func28, Tryd.ntmps28
  go_wp2_with (first | (go_at_call 35; go_must (refine (encodeEntry_yes _ _ _ _ _ body _ hb1 h _ rfl).mono ?_); rintro e w1 ⟨A1, n1, c1, rfl, hL1, hB1, hown1⟩; have hB2 : Below w.heap.size w w1 := (Below.alloc (Below.refl _ _) (Nat.le_refl _) _).trans (hB1.mono (by simp)); have hn1 : n1 ≤ 21000 := (by have := hL1.out; omega); have hw1 : (n1 : Int) % 4294967296 = n1 := (by omega)) | (go_at_call 37; go_must (refine (putWord w1 none 0 0 [] n1 w1 _ rfl (World.ownsRow_nil _ _ _ _) (Below.refl _ _) (by omega)).mono ?_); rintro e w2 ⟨A2, n2, c2, rfl, hL2, hB3, hown2⟩) | (at_builtin; go_must (refine wpList_of_append rfl _ _ 22 rfl rfl rfl (run_own w1 _ 22 22 5 (.int .u8 0) 1 1 Tryd.underlying22 info5 rfl (by decide) (by decide) _ _ _ hown2 hB3 _ _ _ (bys (encE k (strB key) body)) (by rw [bys_length]; have := hL1.out; omega) ((Bs.own hown1).rd.below hB3) (bys_one _) (by have := hL2.out; simp [le4] at this; omega)) ?_)))
  intro v2 w3 hown3 hB4
  obtain ⟨A3, c3, rfl, hle3, hm3⟩ := own_shape hown3
  rw [← bys_append] at hown3
  have hn2 : n2 = 4 := by have := hL2.out; simp [le4] at this; omega
  subst hn2
  go_wp2_with (first | (go_at_call 36; go_must (refine (checksum _ _ _ _ _ (Bs.own hown3) (by omega)).mono ?_); rintro e w4 ⟨rfl, hB5⟩) | (go_at_call 37; go_must (refine (putWord w1 _ _ _ _ _ w4 _ rfl (own_below hown3 hB5) (hB4.trans (hB5.mono hB4.size)) (by omega)).mono ?_); rintro e w5 ⟨A5, n5, c5, rfl, hL5, hB6, hown5⟩))
  refine bodyPost_ret (results_tmp2 rfl _ _ _) rfl ?_
  refine RetB2.mk (hB2.trans (hB6.mono hB2.size)) ?_
  have hen : (encE k (strB key) body).length = n1 := hL1.out
  rw [hZ.out, recB, hen]
  exact own_lower (by simpa using hown5) hB2.size

theorem run_zeros (w : World) (m : Nat) (hm : m ≤ 1000000000) (h0 : 0 < m) : ∃ v' w', (Builtin.append_ #[22, 3] 22 #[.slice none 0 0, .int .i64 m]).run Tryd.prog w = .ok v' w' ∧ ∃ c, v' = .slice (some ⟨w.heap.size, 0, none⟩) m c ∧ Below w.heap.size w w' ∧ w'.ownsRow w.heap.size 5 1 (.slice (some ⟨w.heap.size, 0, none⟩) 0 c) 0 [] := by
  obtain ⟨i, hi, hz0, hz1, hz2⟩ := info_parts info5
  have hr := Lib.run_append_nil_zeros (P := Tryd.prog) w 22 3 22 5 i (.int .u8 0) .i64 .i64 Tryd.underlying22 Tryd.underlying3 hi hz0 m (by omega) (by rw [hz1]; decide) (by omega) (by rw [hz2]; omega)
  have hcap := grownCap_ge w m 0 5
  have hcm := grownCap_le_maxLen w m 0 5 (by simp [maxLen]; omega)
  have hown := World.ownsRow_made (base := w.heap.size) (e := 5) (size := 1) w.drew (Builtin.zeroCells (Value.cells (.int .u8 0)) m ++ Builtin.zeroCells (Value.cells (.int .u8 0)) (grownCap w m 0 5 - m)) (grownCap w m 0 5) (Nat.le_refl _) hcm (by simp [size_zeroCells, Value.cells]; omega)
  exact ⟨_, _, hr, _, rfl, ((Below.refl _ w).drew).alloc (Nat.le_refl _) _, hown⟩

theorem grow (m : Nat) (w : World) (hm : m ≤ 1000000000) :
    Calls Tryd.prog 41 #[.slice none 0 0, .int .i64 m] w fun e w' => ∃ A c, e = .returned (.slice A 0 c) ∧ Below w.heap.size w w' ∧ w'.ownsRow w.heap.size 5 1 (.slice A 0 c) 0 [] := by
  by_cases h0 : m = 0
  · subst h0
    go_enter Tryd.func41, Tryd.ntmps41
    go_wp2_with fail
    go_ret
    exact ⟨none, 0, rfl, Below.refl _ _, World.ownsRow_nil _ _ _ _⟩
  · have hpos : (0 : Int) < m := by omega
    go_enter Tryd.func41, Tryd.ntmps41
    go_wp2_with (at_builtin; go_must (refine wpList_of_append rfl _ _ 22 rfl rfl rfl (run_zeros w m hm (by omega)) ?_); rintro v' w2 ⟨c, rfl, hB, hown⟩)
    go_ret
    exact ⟨_, _, rfl, hB, hown⟩

end Go.Proofs.YtcohgkiloaapcaaDoor

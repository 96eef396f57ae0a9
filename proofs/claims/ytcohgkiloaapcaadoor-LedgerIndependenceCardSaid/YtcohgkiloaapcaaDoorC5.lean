/- Contracts: slices.Concat, slices.Clone, ledger.Append. -/
import Derived.Test.YtcohgkiloaapcaaDoorC4
import Derived.Lib.SliceRun
namespace Go.Proofs.YtcohgkiloaapcaaDoor
open Go.RowKit

/-- A slice of bytes that is an element of another. -/
structure Part where
  A : Option Addr
  n : Nat
  c : Nat
  xs : List UInt8
def partSum (ps : List Part) : Nat := (ps.map (·.n)).sum
def partAll (ps : List Part) : List UInt8 := (ps.map (·.xs)).flatten
theorem partSum_snoc (ps : List Part) (p : Part) : partSum (ps ++ [p]) = partSum ps + p.n := by simp [partSum]
theorem partAll_snoc (ps : List Part) (p : Part) : partAll (ps ++ [p]) = partAll ps ++ p.xs := by simp [partAll]
theorem partSum_take (ps : List Part) (k : Nat) : partSum (ps.take k) ≤ partSum ps := by
  have h : partSum ps = partSum (ps.take k) + partSum (ps.drop k) := by
    conv => lhs; rw [← List.take_append_drop k ps]
    simp only [partSum, List.map_append, List.sum_append]
  omega

set_option maxHeartbeats 400000 in
theorem concat (b o k c : Nat) (ps : List Part) (w : World) (zs : List UInt8) (hz : zs = partAll ps) (hlen : ps.length = k)
    (hcell : ∀ i (h : i < ps.length), w.cell? ⟨b, o + i, none⟩ = some (.slice ps[i].A ps[i].n ps[i].c)) (hbs : ∀ p, p ∈ ps → Bs w p.A p.n p.c p.xs) (htot : partSum ps ≤ 1000000000) (hk : k ≤ 1000) :
    Calls Tryd.prog 29 #[.slice (some ⟨b, o, none⟩) k c] w (RetB 5 zs w) := by
  have hZ := Lib.hid hz
  have hL := Lib.hid hlen
  have HC := Lib.hid hcell
  clear hz hlen hcell
  go_enter Tryd.func29, Tryd.ntmps29
  go_wp2_with fail
  go_loop [3, 11] (fun s i => ∃ j : Nat, j ≤ k ∧ i = .int .i64 j ∧ s = .int .i64 (partSum (ps.take j) : Nat)) (fun _ i => k - (intOf i).toNat)
  case atStart => exact ⟨0, by omega, rfl, by simp [partSum]⟩
  case round =>
    obtain ⟨j, hj, rfl, rfl⟩ := hrel
    have hle := partSum_take ps j
    by_cases hlt : j < k
    · have hj' : j < ps.length := by rw [hL.out]; exact hlt
      have hc := HC.out j hj'
      have hts : ps.take (j + 1) = ps.take j ++ [ps[j]] := List.take_succ_eq_append_getElem hj'
      have hsn : partSum (ps.take (j + 1)) = partSum (ps.take j) + ps[j].n := by rw [hts, partSum_snoc]
      have hle2 := partSum_take ps (j + 1)
      have hle3 : partSum (ps.take j) + ps[j].n ≤ 1000000000 := by omega
      have HS := Lib.hid hsn
      clear hts hsn hle2
      go_wp2_with fail
      go_round
      case rel => exact ⟨j + 1, by omega, by go_num, by rw [HS.out]; go_num⟩
      case measure => simp [intOf]; omega
    · obtain rfl : j = k := by omega
      have htk : ps.take j = ps := List.take_of_length_le (by rw [hL.out]; omega)
      rw [htk]
      clear htk hle hlt
      go_wp2_with (go_at_call 41; go_must (refine (grow _ _ htot).mono ?_); rintro e w1 ⟨A1, c1, rfl, hB1, hown1⟩)
      go_loopw [6, 27] (fun v i wr => ∃ t n : Nat, t ≤ j ∧ i = .int .i64 t ∧ (∃ A c, v = .slice A n c) ∧ wr.ownsRow w.heap.size 5 1 v n (bys (partAll (ps.take t))) ∧ Below w.heap.size w wr ∧ Hid (n = partSum (ps.take t))) (fun _ i _ => j - (intOf i).toNat)
      case atStart => exact ⟨0, 0, by omega, rfl, ⟨_, _, rfl⟩, by simpa [partAll, bys] using hown1, hB1, Lib.hid (by simp [partSum])⟩
      case round =>
        clear hown1 hB1
        obtain ⟨t, n, ht, rfl, ⟨A2, c2, rfl⟩, hown, hB, hn⟩ := hrel
        by_cases hlt : t < j
        · have hj' : t < ps.length := by rw [hL.out]; exact hlt
          have hc := cell_step (HC.out t hj') hB
          have hb := (hbs _ (List.getElem_mem hj')).below hB
          have hts : ps.take (t + 1) = ps.take t ++ [ps[t]] := List.take_succ_eq_append_getElem hj'
          have HS := Lib.hid (show partAll (ps.take (t + 1)) = partAll (ps.take t) ++ ps[t].xs by rw [hts, partAll_snoc])
          have HN := Lib.hid (show partSum (ps.take (t + 1)) = n + ps[t].n by rw [hts, partSum_snoc, hn.out])
          have hle := partSum_take ps (t + 1)
          rw [HN.out] at hle
          have hlb := Lib.hid hb.len
          clear hts hbs
          go_wp2_with (at_builtin; go_must (refine wpList_of_append rfl _ _ 22 rfl rfl rfl (run_own w _ 22 22 5 (.int .u8 0) 1 1 Tryd.underlying22 info5 rfl (by decide) (by decide) _ _ _ hown hB _ _ _ (bys ps[t].xs) (by rw [bys_length, hlb.out]; omega) hb.rd (bys_one _) (by omega)) ?_))
          intro v3 w3 hown3 hB3
          obtain ⟨A3, c3, rfl, _⟩ := own_shape hown3
          go_wp2_with fail
          go_roundw
          case rel => exact ⟨t + 1, n + ps[t].n, by omega, by go_num, ⟨_, _, rfl⟩, by rw [HS.out, bys_append]; exact hown3, hB3, Lib.hid HN.out.symm⟩
          case measure => simp [intOf]; omega
        · obtain rfl : t = j := by omega
          have htk : ps.take t = ps := List.take_of_length_le (by rw [hL.out]; omega)
          rw [htk, ← hZ.out] at hown
          clear htk
          go_wp2_with fail
          go_ret
          exact RetB.mk hB hown

theorem clone (A : Option Addr) (n c : Nat) (xs : List UInt8) (w : World) (hb : Bs w A n c xs) (hn : n ≤ 1000000000) : Calls Tryd.prog 34 #[.slice A n c] w (RetB 5 xs w) := by
  have hlen := Lib.hid hb.len
  cases A with
  | none =>
    have h0 : n = 0 := by
      rcases Nat.eq_zero_or_pos n with h | h
      · exact h
      · obtain ⟨b, o, e, _⟩ := hb.at_ h
        cases e
    subst h0
    have hx : xs = [] := List.eq_nil_of_length_eq_zero hlen.out
    subst hx
    have hnil := fun w => Lib.run_eql_slice_nil (P := Tryd.prog) w 22 5 none 0 c 0 0 Tryd.underlying22
    go_enter Tryd.func34, Tryd.ntmps34
    go_wp2_with fail
    go_ret
    exact RetB.mk (Below.refl _ _) (World.ownsRow_nil _ _ _ _)
  | some a =>
    have hnil := fun w => Lib.run_eql_slice_nil (P := Tryd.prog) w 22 5 (some a) n c 0 0 Tryd.underlying22
    go_enter Tryd.func34, Tryd.ntmps34
    go_wp2_with (at_builtin; go_must (refine wpList_of_append rfl _ _ 22 rfl rfl rfl (run_own w _ 22 22 5 (.int .u8 0) 1 1 Tryd.underlying22 info5 rfl (by decide) (by decide) _ _ _ (own_empty w 5 1) ((Below.refl _ w).alloc (Nat.le_refl _) _) _ _ _ (bys xs) (by rw [bys_length, hlen.out]; omega) (hb.rd.below ((Below.refl _ w).alloc (Nat.le_refl _) _)) (bys_one _) (by omega)) ?_))
    intro v3 w3 hown3 hB3
    go_wp2
    go_ret
    exact RetB.mk hB3 (by simpa using hown3)

theorem append_no (A : Option Addr) (n c : Nat) (k : Int) (key : ByteArray) (A2 : Option Addr) (n2 c2 : Nat) (w : World) (h : vldE k key.size n2 = false) :
    Calls Tryd.prog 14 #[.slice A n c, .agg #[.int .i64 k, .string key, .slice A2 n2 c2]] w fun e w' => e = .returned (.tuple #[.slice none 0 0, .int .i64 1]) ∧ Below w.heap.size w w' := by
  go_enter Tryd.func14, Tryd.ntmps14
  go_wp2_with (go_at_call 28; go_must (refine (record_no _ _ _ _ _ _ h).mono ?_); rintro e w1 ⟨rfl, hB⟩)
  exact bodyPost_ret (results_tmp2 rfl _ _ _) rfl ⟨rfl, (Below.alloc (Below.refl _ _) (Nat.le_refl _) _).trans (hB.mono (by simp))⟩

theorem recB_length (e : List UInt8) : (recB e).length = e.length + 8 := by simp [recB, le4]
theorem encE_le {k : Nat} {key : ByteArray} {n : Nat} {body : List UInt8} (hn : body.length = n) (h : vldE k key.size n = true) : (encE k (strB key) body).length ≤ 21000 := by
  have hv : (1 ≤ k ∧ k ≤ 4) ∧ 1 ≤ key.size ∧ key.size ≤ 40 ∧ n ≤ 20000 := by simp [vldE] at h; omega
  have h1 := strB_length key
  have h3 := vEnc_len 9 (2 * k) (by omega)
  have h4 := vEnc_len 9 (2 * (strB key).length) (by omega)
  have h5 := vEnc_len 9 (2 * body.length) (by omega)
  simp [encE]; omega

theorem append_yes (A : Option Addr) (n c : Nat) (xs : List UInt8) (k : Nat) (key : ByteArray) (A2 : Option Addr) (n2 c2 : Nat) (body : List UInt8) (w : World) (hl : Bs w A n c xs) (hn : n ≤ 900000000) (hb : Bs w A2 n2 c2 body) (h : vldE k key.size n2 = true)
    (zs : List UInt8) (hz : zs = xs ++ recB (encE k (strB key) body)) :
    Calls Tryd.prog 14 #[.slice A n c, .agg #[.int .i64 k, .string key, .slice A2 n2 c2]] w (RetB2 5 zs (.int .i64 0) w) := by
  have hZ := Lib.hid hz
  have HR := Lib.hid (show (recB (encE k (strB key) body)).length ≤ 21008 by rw [recB_length]; have := encE_le hb.len h; omega)
  have hb1 := hb.below ((Below.refl _ w).alloc (Nat.le_refl _) (.cells #[.int .i64 k, .string key, .slice A2 n2 c2] 25))
  clear hz hb
  go_enter Tryd.func14, Tryd.ntmps14
  go_wp2_with (go_at_call 28; go_must (refine (record_yes _ _ _ _ _ body _ hb1 h _ rfl).mono ?_); rintro e w1 ⟨A1, n1, c1, rfl, hL1, hB1, hown1⟩)
  have hB2 : Below w.heap.size w w1 := (Below.alloc (Below.refl _ _) (Nat.le_refl _) _).trans (hB1.mono (by simp))
  have hn1 : n1 ≤ 21008 := by have := hL1.out; have := HR.out; omega
  have hB3 := (Below.refl _ w1).alloc (Nat.le_refl _) (.cells #[.slice A n c, .slice A1 n1 c1] 22)
  have hcat := concat w1.heap.size 0 2 2 [⟨A, n, c, xs⟩, ⟨A1, n1, c1, recB (encE k (strB key) body)⟩] (w1.alloc (.cells #[.slice A n c, .slice A1 n1 c1] 22)) _ rfl rfl
    (fun i hi => by
      have : i = 0 ∨ i = 1 := by simp at hi; omega
      rcases this with rfl | rfl <;> (rw [cell_of_row _ _ _ _ 22 (0, 0) (heap_alloc_new w1 _)]; rfl))
    (fun p hp => by
      have : p = ⟨A, n, c, xs⟩ ∨ p = ⟨A1, n1, c1, recB (encE k (strB key) body)⟩ := by simpa using hp
      rcases this with rfl | rfl
      · exact (hl.below hB2).below hB3
      · exact (Bs.own hown1).below hB3) (by simp [partSum]; omega) (by omega)
  go_wp2_with (go_at_call 29; go_must (refine hcat.mono ?_); rintro e w4 ⟨A4, n4, c4, rfl, hL4, hB4, hown4⟩)
  refine bodyPost_ret (results_tmp2 rfl _ _ _) rfl ?_
  have hB5 := hB2.trans ((hB3.trans (hB4.mono (by simp))).mono hB2.size)
  refine RetB2.mk hB5 ?_
  rw [hZ.out]
  have := own_lower hown4 (b' := w.heap.size) (by have := hB2.size; simp; omega)
  simpa [partAll] using this
end Go.Proofs.YtcohgkiloaapcaaDoor

/- The law LedgerChainHash, walked. PRINTED BY gen_chain.py. -/
import Derived.Test.YtcohgkiloaapcaaDoorP5
namespace Go.Proofs.YtcohgkiloaapcaaDoor
open Go.RowKit

/-- What the operations of region 7 yield. -/
def chD7 : List Nat := [36, 37, 38, 39, 40, 41, 42, 43]
def chPhi7 (Ao A1 A7 : Option Addr) (m c1 k co H1 H2 : Nat) (i : Nat) (v : Value) (W : World) : Prop := (List.getD (
  (fun v _ => v = .slice Ao (k + 1) co) ::
  (fun v _ => v = .int .u32 (H1 : Nat)) ::
  (fun v _ => v = .slice A1 m c1) ::
  (fun v _ => v = .int .i64 (k : Nat)) ::
  (fun v _ => v = .int .i64 ((k : Int) + 1)) ::
  (fun v _ => v = .slice A7 (k + 1) c1) ::
  (fun v _ => v = .int .u32 (H1 : Nat)) ::
  (fun v _ => v = .bool false) ::
  []) i (fun _ _ => True)) v W
set_option maxRecDepth 20000 in
set_option maxHeartbeats 4000000 in
theorem law_ChainHash (A : Option Addr) (n c : Nat) (xs : List Rec) (z0 z1 z2 : Int) (w : World) (hE : EsIn w A n c xs) (hz0 : 0 ≤ z0 ∧ z0 < 256) (hz1 : 0 ≤ z1 ∧ z1 < 256) (hz2 : 0 ≤ z2 ∧ z2 < 256) (hG : GOk w) : Calls Tryd.prog 9 #[.slice A n c, .agg #[.int .u8 z0, .int .u8 z1], .int .u8 z2] w (LawQ w) := by
  obtain ⟨u, rfl⟩ := u8_of hz2
  obtain ⟨hz00, hz01⟩ := hz0
  obtain ⟨hz10, hz11⟩ := hz1
  have hBa := below_al w (.cells #[.int .u8 z0, .int .u8 z1] 50)
  have h11 := sanity_ok _ (hG.kept hBa)
  have hat : ∀ W, Below (w.alloc (.cells #[.int .u8 z0, .int .u8 z1] 50)).heap.size (w.alloc (.cells #[.int .u8 z0, .int .u8 z1] 50)) W → W.cell? ⟨w.heap.size, 0, none⟩ = some (.int .u8 z0) ∧ W.cell? ⟨w.heap.size, 1, none⟩ = some (.int .u8 z1) := fun W hW => by
    have hh := (hW.block w.heap.size (by simp)).trans (heap_alloc_new w (.cells #[.int .u8 z0, .int .u8 z1] 50))
    exact ⟨cell_of_row W _ 0 _ 50 (0, 0) hh, cell_of_row W _ 1 _ 50 (0, 0) hh⟩
  have HBa := Lib.hid hBa
  have HE := Lib.hid hE
  clear hz2 hE hBa
  go_enter Tryd.func9, Tryd.ntmps9
  go_wp2_with fail
  refine h11.mono ?_
  clear h11
  rintro e w1 ⟨rfl, hB1⟩
  have hB := below_then HBa.out hB1
  have h12 := made_in A n c 8 xs w1 (HE.out.below hB) (by decide)
  have HB1 := Lib.hid hB1
  clear hB1
  go_wp2_with fail
  refine h12.mono ?_
  clear h12
  rintro e w2 ⟨A1, m, c1, ys, rfl, hE2, -, -, hm, hgd, hB2⟩
  have hB := below_then hB hB2
  have hBt := below_then HB1.out hB2
  obtain ⟨hc0, -⟩ := hat w2 hBt
  have hve := goods_ve hgd
  have Hml := Lib.hid hE2.len
  clear hgd hB2
  by_cases hm0 : m = 0
  · subst hm0
    go_wp2_with fail
    go_ret
    exact ⟨rfl, hB⟩
  have hm1 : ((m : Int) == 0) = false := by simp; omega
  by_cases hu0 : u.toNat = 0
  · have hu1 : ((u.toNat : Int) == 0) = true := by simp [hu0]
    have HU := Lib.hid hu0
    clear hu0 hm0
    go_wp2_with fail
    go_ret
    exact ⟨rfl, hB⟩
  have hu1 : ((u.toNat : Int) == 0) = false := by simp; omega
  have HU := Lib.hid hu0
  obtain ⟨k, hkm, hk⟩ : ∃ k : Nat, k < m ∧ z0 % (m : Int) = k := ⟨(z0 % (m : Int)).toNat, by have := Int.emod_lt_of_pos z0 (show (0 : Int) < (m : Int) by omega); omega, by have := Int.emod_nonneg z0 (show (m : Int) ≠ 0 by omega); omega⟩
  have hne1 : ((m : Int) == 0) = false := by simp; omega
  obtain ⟨A7, hrun7, htr7⟩ := cut_hE A1 m c1 (k + 1) ((k : Int) + 1) (by omega) (by omega) hE2.le
  have hcut7 := sliceAt_of Tryd.underlying23 hrun7
  have hB0 := below_al w2 (.cells #[] 25)
  have hoE := own_empty w2 25 3
  have hk2 : k ≤ 1000 := by omega
  have hkl : k < ys.length := by rw [Hml.out]; exact hkm
  have htl : (ys.take (k + 1)).length = k + 1 := by rw [List.length_take]; omega
  have Htl := Lib.hid htl
  have Hkl := Lib.hid hkl
  have hrd7 := (htr7 _ _ hE2).rd
  have HE2 := Lib.hid hE2
  have HEw := Lib.hid hE2
  have HBw := Lib.hid hB
  have hgw : w.heap.size < w2.heap.size := by have h := hBt.size; simp at h; omega
  clear hu0 hm0 hE2 htl hkl
  go_upto_region 6 with (fail)
  rw [hk]
  clear hk
  go_wp2_with (at_builtin; refine wpList_of_append rfl _ _ 23 rfl rfl rfl (run_own w2 _ 23 23 25 _ 3 48 Tryd.underlying23 infoE25 rfl (by decide) (by decide) _ _ _ hoE hB0 A7 (k + 1) c1 (rowsOf (ys.take (k + 1))) (by rw [rowsOf_length, Htl.out]) (hrd7.below hB0) (rowsOf_one _) (by omega)) ?_)
  intro v5 w5 hown5 hB5
  have hown5 : w5.ownsRow w2.heap.size 25 3 v5 (k + 1) (rowsOf (ys.take (k + 1))) := by simpa using hown5
  obtain ⟨Ao, co, rfl, -, -⟩ := own_shape hown5
  have hEo : Es w5 Ao (k + 1) co (ys.take (k + 1)) := Es.ofOwn hown5 Htl.out (fun y hy => (HE2.out.bd y (List.mem_of_mem_take hy)).below hB5)
  have hE2 := HE2.out.below hB5
  obtain ⟨H1, hH1⟩ : ∃ H, H = chainH ((ys.take (k + 1)).map (·.E)) := ⟨_, rfl⟩
  have hne7 : ((H1 : Int) != (H1 : Int)) = false := by simp
  have HO5 := Lib.hid hown5
  clear hoE hB0 hrd7 hown5
  go_upto_region 7 with (fail)
  refine wp_region_mono (by kernel_rfl)
    ((36, chD7.erase 36, []) :: (37, chD7.erase 37, [(0, 36)]) :: (38, chD7.erase 38, []) :: (39, chD7.erase 39, []) :: (40, chD7.erase 40, [(3, 39)]) :: (41, chD7.erase 41, [(2, 38), (4, 40)]) :: (42, chD7.erase 42, [(1, 37), (5, 41)]) :: (43, chD7.erase 43, [(1, 37), (6, 42)]) :: [])
    (by kernel_rfl) (chPhi7 Ao A1 A7 m c1 k co H1 H1) (by simp) ⟨?_, ?_, ?_, ?_, ?_, ?_, ?_, ?_, trivial⟩ ?_
  · intro us W hW hE
    intro K hK
    with_reducible refine stepV0 (.slice Ao (k + 1) co) (W) ?_ ?_ ?_
    · rfl
    · exact (ex_move rfl (ev_old (by decide) rfl))
    · exact hK _ _ (Below.refl _ _) (fun W'' h => rfl)
  · intro us W hW hE
    have e0 : us 36 = .slice Ao (k + 1) co := hE.1
    intro K hK
    with_reducible refine stepC0 (22) (#[.slice Ao (k + 1) co]) ?_ ?_ ?_
    · rfl
    · exact (ex_fn1 rfl rfl (ev_us (N := 96) rfl (by decide) e0) (cf22 _ _))
    · refine Calls.mono (chain_ok Ao (k + 1) co (ys.take (k + 1)) W (hEo.below (undrew hW)) (by omega) (fun y hy => hve y (List.mem_of_mem_take hy)) H1 hH1) ?_
      rintro e w2 ⟨rfl, hB2⟩
      exact ⟨_, rfl, hK _ _ hB2 (fun W'' h => rfl)⟩
  · intro us W hW hE
    intro K hK
    with_reducible refine stepV0 (.slice A1 m c1) (W) ?_ ?_ ?_
    · rfl
    · exact (ex_move rfl (ev_old (by decide) rfl))
    · exact hK _ _ (Below.refl _ _) (fun W'' h => rfl)
  · intro us W hW hE
    intro K hK
    with_reducible refine stepV0 (.int .i64 (k : Nat)) (W) ?_ ?_ ?_
    · rfl
    · exact (ex_move rfl (ev_old (by decide) rfl))
    · exact hK _ _ (Below.refl _ _) (fun W'' h => rfl)
  · intro us W hW hE
    have e3 : us 39 = .int .i64 (k : Nat) := hE.1
    intro K hK
    with_reducible refine stepV0 (.int .i64 ((k : Int) + 1)) (W) ?_ ?_ ?_
    · rfl
    · exact ex_bin rfl (ev_us (N := 96) rfl (by decide) e3) rfl guard_int (add1 k hk2 W)
    · exact hK _ _ (Below.refl _ _) (fun W'' h => rfl)
  · intro us W hW hE
    have e2 : us 38 = .slice A1 m c1 := hE.1
    have e4 : us 40 = .int .i64 ((k : Int) + 1) := hE.2.1
    intro K hK
    with_reducible refine stepV0 (.slice A7 (k + 1) c1) (W) ?_ ?_ ?_
    · rfl
    · exact ex_sliceH rfl (ev_us (N := 96) rfl (by decide) e2) (ev_us (N := 96) rfl (by decide) e4) (hcut7 W)
    · exact hK _ _ (Below.refl _ _) (fun W'' h => rfl)
  · intro us W hW hE
    have e5 : us 41 = .slice A7 (k + 1) c1 := hE.2.1
    intro K hK
    with_reducible refine stepC0 (22) (#[.slice A7 (k + 1) c1]) ?_ ?_ ?_
    · rfl
    · exact (ex_fn1 rfl rfl (ev_us (N := 96) rfl (by decide) e5) (cf22 _ _))
    · refine Calls.mono (chain_ok A7 (k + 1) c1 (ys.take (k + 1)) W (htr7 _ _ (hE2.below (undrew hW))) (by omega) (fun y hy => hve y (List.mem_of_mem_take hy)) H1 hH1) ?_
      rintro e w2 ⟨rfl, hB2⟩
      exact ⟨_, rfl, hK _ _ hB2 (fun W'' h => rfl)⟩
  · intro us W hW hE
    have e1 : us 37 = .int .u32 (H1 : Nat) := hE.1
    have e6 : us 42 = .int .u32 (H1 : Nat) := hE.2.1
    intro K hK
    with_reducible refine stepV0 (.bool false) (W) ?_ ?_ ?_
    · rfl
    · exact ex_cmp rfl (ev_us (N := 96) rfl (by decide) e1) (ev_us (N := 96) rfl (by decide) e6) (neq_int hne7)
    · exact hK _ _ (Below.refl _ _) (fun W'' h => rfl)
  · intro us W hW hE
    have h43 : us 43 = .bool false := AllF.get hE 7 (x := (43, chD7.erase 43, [(1, 37), (6, 42)])) (by kernel_rfl)
    have hBW := undrew hW
    have hBt5 := below_then hBt (hB5.trans (hBW.mono hB5.size))
    simp only [List.map_cons, List.map_nil, chD7, List.erase_cons, fillT, Act.put, List.setIfInBounds_toArray, List.set_cons_zero, List.set_cons_succ]
    rw [h43]
    clear h43 hE
    have hEo := hEo.below hBW
    have hE2 := hE2.below hBW
    have hown := own_below HO5.out hBW
    have hB2 := hB5.trans (hBW.mono hB5.size)
    obtain ⟨g, o, rfl, hr⟩ := es_range hEo (by omega)
    obtain ⟨-, hgb, rfl⟩ := own_free (k := 0) hown
    have hri := hr k (by rw [Htl.out]; omega)
    have hyk : (ys.take (k + 1))[k]'(by rw [Htl.out]; omega) = ys[k]'Hkl.out := List.getElem_take
    rw [hyk, show 0 + 3 * k = 0 + k * 3 by omega] at hri
    have hth := own_there (k := k) hown Htl.out (by omega)
    have hbk := hE2.bd _ (List.getElem_mem Hkl.out)
    have hvk := hve _ (List.getElem_mem Hkl.out)
    generalize hy : ys[k]'Hkl.out = y at *
    have hge : g < W.heap.size := World.block_lt_of_cell? W ⟨g, k * 3, none⟩ (own_cell0 hown Htl.out (by omega))
    unfold newE at hri
    have hki : (k : Int) < (k : Int) + 1 := by omega
    rw [Nat.zero_add] at hri
    have hBe := below_al W (.cells #[.int .i64 y.E.kind, .string (strOf y.E.key), .slice y.A y.m y.c] 25)
    have hBx := below_then hB hB2
    have HEo := Lib.hid hEo
    have HE2 := Lib.hid hE2
    have HOW := Lib.hid hown
    have HBX := Lib.hid hBx
    have HB2 := Lib.hid hB2
    have Hy := Lib.hid hy
    have Hyk := Lib.hid hyk
    have HVK := Lib.hid hvk
    have HBK := Lib.hid hbk
    have HTH := Lib.hid hth
    clear hEo hown hBx hB2 hBW hW hr hB5 HO5 hcut7 hy hyk hvk hbk hth hB hBt hown5 hE2
    by_cases hy0 : y.m = 0
    · have hy0b : ((y.m : Int) == 0) = true := by simp [hy0]
      have HY0 := Lib.hid hy0
      have HBe := Lib.hid hBe
      clear hy0 hBe
      go_wp2_with ((with_reducible refine load3o g (k * 3) y.E.kind (strOf y.E.key) y.A y.m y.c ?_ ?_ ?_); exact rfl; exact hri)
      go_ret
      exact ⟨rfl, below_then HBX.out HBe.out⟩
    have hy0b : ((y.m : Int) == 0) = false := by simp; omega
    obtain ⟨W9, hW9⟩ : ∃ W9, W9 = W.alloc (.cells #[.int .i64 y.E.kind, .string (strOf y.E.key), .slice y.A y.m y.c] 25) := ⟨_, rfl⟩
    have h11 : W9.heap[W.heap.size]? = some (.cells #[.int .i64 y.E.kind, .string (strOf y.E.key), .slice y.A y.m y.c] 25) := by rw [hW9]; exact heap_alloc_new W _
    have hs9 : W9.heap.size = W.heap.size + 1 := by rw [hW9]; simp
    rw [← hW9] at hBe
    have hybl : y.m ≤ 20000 := by have h := HVK.out.bd; have := HBK.out.len; omega
    have HW9 := Lib.hid hW9
    have H11 := Lib.hid h11
    have HBe := Lib.hid hBe
    have HY0 := Lib.hid hy0
    have HS9 := Lib.hid hs9
    clear hy0 h11 hs9
    go_upto_region 12 with ((with_reducible refine load3o g (k * 3) y.E.kind (strOf y.E.key) y.A y.m y.c ?_ ?_ ?_); exact rfl; exact hri)
    rw [← hW9]
    clear hW9
    obtain ⟨f0, f1, f2⟩ : W9.cell? ⟨W.heap.size, 0, none⟩ = some (.int .i64 y.E.kind) ∧ W9.cell? ⟨W.heap.size, 1, none⟩ = some (.string (strOf y.E.key)) ∧ W9.cell? ⟨W.heap.size, 2, none⟩ = some (.slice y.A y.m y.c) := ⟨cell_of_row W9 _ 0 _ 25 (0, 0) H11.out, cell_of_row W9 _ 1 _ 25 (0, 0) H11.out, cell_of_row W9 _ 2 _ 25 (0, 0) H11.out⟩
    refine chain_tail w w2 W9 _ A A1 n c m c1 k co w.heap.size W.heap.size g z1 u ys y _ _ _ _ _ _ _ _ _ _ _ _ _ _ _ _ _ _ _ _ _ _ _ _ _ _ _ _ _ _ _ _ _ _ _ _ _ _ _ _ _ _ _ _ _ _ _ _ _ _ _ _ _ _ _ _ _ _ _ _ _ _ _ _ _ _ _ _ _ _ _ _ _ _ _ _ _ _ _ _ _ _ _ _ _ _ _ hkm Hml.out Hy.out hk2 hz10 hz11 HU.out hve HEw.out (below_then HB2.out HBe.out) HBw.out (own_below HOW.out HBe.out) HY0.out hybl (hat W9 (below_then hBt5 HBe.out)).2 f0 f1 f2 (by omega) (by omega) ?_ _ (by assumption)
    intro a' W' h0 hd hB
    exact bodyPost_ret (by rw [results_tmp rfl, h0]) hd ⟨rfl, hB⟩
end Go.Proofs.YtcohgkiloaapcaaDoor

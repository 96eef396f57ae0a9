/- The law LedgerCanonical, walked. PRINTED BY gen_canon.py. -/
import Derived.Test.YtcohgkiloaapcaaDoorP3
namespace Go.Proofs.YtcohgkiloaapcaaDoor
open Go.RowKit

theorem cf12 (args : Array Value) (w : World) : (callFunc 12 args).run Tryd.prog w = .ok (.enter 12 args) w := cf_enter Tryd.func12 (by kernel_rfl) rfl args w
theorem cf13 (args : Array Value) (w : World) : (callFunc 13 args).run Tryd.prog w = .ok (.enter 13 args) w := cf_enter Tryd.func13 (by kernel_rfl) rfl args w
/-- The temporaries of the statement that makes the log. -/
def caD : List Nat := [18, 19, 20, 21, 22, 23, 24, 25, 26, 8]
/-- What its operations yield. -/
def caPhi (Ag A A7 : Option Addr) (g cg n c : Nat) (w2 : World) (i : Nat) (v : Value) (W : World) : Prop := (List.getD (
  (fun v _ => v = .slice A n c) ::
  (fun v W => ∃ B m d ys, v = .slice B m d ∧ (Es W B m d ys ∧ m ≤ 6 ∧ ∀ y, y ∈ ys → VE y.E)) ::
  (fun v W => ∃ B k d ls, v = .slice B k d ∧ (k ≤ 130000 ∧ W.ownsRow w2.heap.size 5 1 (.slice B k d) k (bys ls))) ::
  (fun v _ => v = .slice Ag g cg) ::
  (fun v _ => v = .slice Ag g cg) ::
  (fun v _ => v = .int .i64 (g : Nat)) ::
  (fun v _ => v = .int .i64 ((min g 400 : Nat) : Int)) ::
  (fun v _ => v = .slice A7 (min g 400) cg) ::
  (fun v W => ∃ B k d ls, v = .slice B k d ∧ (k ≤ 140000 ∧ W.ownsRow w2.heap.size 5 1 (.slice B k d) k (bys ls))) ::
  (fun v W => ∃ B k d ls, v = .slice B k d ∧ (k ≤ 140000 ∧ W.ownsRow w2.heap.size 5 1 (.slice B k d) k (bys ls))) ::
  []) i (fun _ _ => True)) v W

set_option maxRecDepth 20000 in
set_option maxHeartbeats 4000000 in
theorem law_Canonical (Ag : Option Addr) (g cg : Nat) (gs : List UInt8) (A : Option Addr) (n c : Nat) (xs : List Rec) (z : Int) (w : World) (hGb : Bs w Ag g cg gs) (hgb : g ≤ 140737488355328) (hE : EsIn w A n c xs) (hz : 0 ≤ z ∧ z < 65536) (hG : GOk w) : Calls Tryd.prog 5 #[.slice Ag g cg, .slice A n c, .int .u16 z] w (LawQ w) := by
  have h11 := sanity_ok w hG
  obtain ⟨hz0, hz1⟩ := hz
  go_enter Tryd.func5, Tryd.ntmps5
  go_wp2_with fail
  refine h11.mono ?_
  clear h11
  rintro e w2 ⟨rfl, hB⟩
  have hs2 := hB.size
  have hE2 := hE.below hB
  have hgb2 := hGb.below hB
  go_upto_region 2 with (fail)
  obtain ⟨A7, hrun7, htr7⟩ := cut_h (P := Tryd.prog) 22 5 Tryd.underlying22 info5 Ag g cg (min g 400) ((min g 400 : Nat) : Int) rfl (by omega) hgb2.le
  have hcut7 := sliceAt_of Tryd.underlying22 hrun7
  have hgs := Lib.hid hgb2.len
  have HGb := Lib.hid hgb2
  have HE2 := Lib.hid hE2
  clear hE2 hGb hE
  refine wp_region_rows (by kernel_rfl) ((caD.erase 18) :: (caD.erase 19) :: (caD.erase 20) :: (caD.erase 21) :: (caD.erase 22) :: (caD.erase 23) :: (caD.erase 24) :: (caD.erase 25) :: (caD.erase 26) :: (caD.erase 8) :: []) caD 97 rfl (by kernel_rfl)
    (⟨18, [], [1], [], 0⟩ :: ⟨19, [(0, 18)], [2], [0], 1⟩ :: ⟨20, [(1, 19)], [8], [0, 1], 1⟩ :: ⟨21, [], [7], [], 0⟩ :: ⟨22, [], [5], [], 0⟩ :: ⟨23, [(4, 22)], [6], [4], 0⟩ :: ⟨24, [(5, 23)], [7], [4, 5], 0⟩ :: ⟨25, [(3, 21), (6, 24)], [8], [3, 4, 5, 6], 0⟩ :: ⟨26, [(2, 20), (7, 25)], [9], [0, 1, 2, 3, 4, 5, 6, 7], 2⟩ :: ⟨8, [(8, 26)], [10], [0, 1, 2, 3, 4, 5, 6, 7, 8], 1⟩ :: []) (by kernel_rfl)
    (caPhi Ag A A7 g cg n c w2) ?_ ⟨?_, ?_, ?_, ?_, ?_, ?_, ?_, ?_, ?_, ?_, trivial⟩ ?_
  · intro j r hr hk v W W' h
    match j, hr with
    | 0, _ => exact h
    | 1, hr => obtain rfl := Option.some.inj hr; cases hk
    | 2, hr => obtain rfl := Option.some.inj hr; cases hk
    | 3, _ => exact h
    | 4, _ => exact h
    | 5, _ => exact h
    | 6, _ => exact h
    | 7, _ => exact h
    | 8, hr => obtain rfl := Option.some.inj hr; cases hk
    | 9, hr => obtain rfl := Option.some.inj hr; cases hk
    | j + 10, hr => simp at hr
  · intro us W hW hE
    intro K hK
    with_reducible refine stepV0 (.slice A n c) (W) ?_ ?_ ?_
    · rfl
    · exact (ex_move rfl (ev_old (by decide) rfl))
    · exact hK _ _ (below_then hW (Below.refl _ _)) (fun _ => (Below.refl _ _)) (fun W'' h => rfl)
  · intro us W hW hE
    have e0 : us 18 = .slice A n c := hE.1
    intro K hK
    with_reducible refine stepC0 (12) (#[.slice A n c, .int .i64 6]) ?_ ?_ ?_
    · rfl
    · exact (ex_fn2 rfl rfl (ev_us (N := 97) rfl (by decide) e0) rfl (cf12 _ _))
    · refine Calls.mono (made_in A n c 6 xs W (HE2.out.below (undrew hW)) (by decide)) ?_
      rintro e w2 ⟨B, m, d, ys, rfl, hE3, -, -, hm6, hgd, hB2⟩
      exact ⟨_, rfl, hK _ _ (below_then hW hB2) (fun _ => hB2) (fun W'' h => ⟨_, _, _, _, rfl, hE3.below h, hm6, goods_ve hgd⟩)⟩
  · intro us W hW hE
    obtain ⟨B_1, m_1, d_1, ys_1, e1, p1⟩ : ∃ B m d ys, us 19 = .slice B m d ∧ (Es W B m d ys ∧ m ≤ 6 ∧ ∀ y, y ∈ ys → VE y.E) := hE.1
    intro K hK
    with_reducible refine stepC0 (13) (#[.slice B_1 m_1 d_1]) ?_ ?_ ?_
    · rfl
    · exact (ex_fn1 rfl rfl (ev_us (N := 97) rfl (by decide) e1) (cf13 _ _))
    · refine Calls.mono (refLog B_1 m_1 d_1 ys_1 W p1.1 p1.2.2 (by have := p1.2.1; omega) _ rfl) ?_
      rintro e w2 ⟨B, k, d, rfl, hL2, hB2, hown2⟩
      exact ⟨_, rfl, hK _ _ (below_then hW hB2) (fun _ => hB2) (fun W'' h => ⟨_, _, _, _, rfl, by have h1 := log_le p1.2.2 p1.1.len p1.2.1; have := hL2.out; omega, own_below (own_lower hown2 hW.size) h⟩)⟩
  · intro us W hW hE
    intro K hK
    with_reducible refine stepV0 (.slice Ag g cg) (W) ?_ ?_ ?_
    · rfl
    · exact (ex_move rfl (ev_old (by decide) rfl))
    · exact hK _ _ (below_then hW (Below.refl _ _)) (fun _ => (Below.refl _ _)) (fun W'' h => rfl)
  · intro us W hW hE
    intro K hK
    with_reducible refine stepV0 (.slice Ag g cg) (W) ?_ ?_ ?_
    · rfl
    · exact (ex_move rfl (ev_old (by decide) rfl))
    · exact hK _ _ (below_then hW (Below.refl _ _)) (fun _ => (Below.refl _ _)) (fun W'' h => rfl)
  · intro us W hW hE
    have e4 : us 22 = .slice Ag g cg := hE.1
    intro K hK
    with_reducible refine stepV0 (.int .i64 (g : Nat)) (W) ?_ ?_ ?_
    · rfl
    · exact (ex_len rfl Tryd.underlying22 (ev_us (N := 97) rfl (by decide) e4))
    · exact hK _ _ (below_then hW (Below.refl _ _)) (fun _ => (Below.refl _ _)) (fun W'' h => rfl)
  · intro us W hW hE
    have e5 : us 23 = .int .i64 (g : Nat) := hE.1
    intro K hK
    with_reducible refine stepV0 (.int .i64 ((min g 400 : Nat) : Int)) (W) ?_ ?_ ?_
    · rfl
    · exact ex_min rfl (ev_us (N := 97) rfl (by decide) e5) (show (Value.int IntKind.i64 400) = .int .i64 ((400 : Nat) : Int) from rfl)
    · exact hK _ _ (below_then hW (Below.refl _ _)) (fun _ => (Below.refl _ _)) (fun W'' h => rfl)
  · intro us W hW hE
    have e3 : us 21 = .slice Ag g cg := hE.1
    have e6 : us 24 = .int .i64 ((min g 400 : Nat) : Int) := hE.2.1
    intro K hK
    with_reducible refine stepV0 (.slice A7 (min g 400) cg) (W) ?_ ?_ ?_
    · rfl
    · exact ex_sliceH rfl (ev_us (N := 97) rfl (by decide) e3) (ev_us (N := 97) rfl (by decide) e6) (hcut7 W)
    · exact hK _ _ (below_then hW (Below.refl _ _)) (fun _ => (Below.refl _ _)) (fun W'' h => rfl)
  · intro us W hW hE
    obtain ⟨B_2, k_2, d_2, ls_2, e2, p2⟩ : ∃ B k d ls, us 20 = .slice B k d ∧ (k ≤ 130000 ∧ W.ownsRow w2.heap.size 5 1 (.slice B k d) k (bys ls)) := hE.1
    have e7 : us 25 = .slice A7 (min g 400) cg := hE.2.1
    obtain ⟨v', w', hr, hown, hB'⟩ := run_own w2.drew W 22 22 5 (.int .u8 0) 1 1 Tryd.underlying22 info5 rfl (by decide) (by decide) _ _ _ p2.2 hW A7 (min g 400) cg (bys (gs.take (min g 400))) (by rw [bys_length, List.length_take, hgs.out]; omega) (htr7 _ _ (HGb.out.below (undrew hW))).rd (bys_one _) (by have := p2.1; omega)
    obtain ⟨A', c', rfl, -, -⟩ := own_shape hown
    rw [← bys_append] at hown
    have hkb := p2.1
    intro K hK
    with_reducible refine stepV0 (.slice A' (k_2 + min g 400) c') (w') ?_ ?_ ?_
    · rfl
    · exact ex_append rfl (ev_us (N := 97) rfl (by decide) e2) (ev_us (N := 97) rfl (by decide) e7) hr
    · exact hK _ _ hB' (fun h => absurd rfl h) (fun W'' h => ⟨_, _, _, _, rfl, by omega, own_below hown h⟩)
  · intro us W hW hE
    obtain ⟨B_8, k_8, d_8, ls_8, e8, p8⟩ : ∃ B k d ls, us 26 = .slice B k d ∧ (k ≤ 140000 ∧ W.ownsRow w2.heap.size 5 1 (.slice B k d) k (bys ls)) := hE.1
    intro K hK
    with_reducible refine stepV0 (.slice B_8 k_8 d_8) (W) ?_ ?_ ?_
    · rfl
    · exact (ex_assign rfl (ev_us (N := 97) rfl (by decide) e8))
    · exact hK _ _ (below_then hW (Below.refl _ _)) (fun _ => (Below.refl _ _)) (fun W'' h => ⟨B_8, k_8, d_8, ls_8, rfl, ⟨p8.1, own_below p8.2 h⟩⟩)
  · intro us W hW hRF
    obtain ⟨A8, n8, c8, zs, h8, hn8, hown8⟩ : ∃ A n c zs, us 8 = .slice A n c ∧ (n ≤ 140000 ∧ W.ownsRow w2.heap.size 5 1 (.slice A n c) n (bys zs)) := hRF 9 _ rfl (.inr rfl)
    have hBW := undrew hW
    simp only [caD, fillT, Act.put, List.setIfInBounds_toArray, List.set_cons_zero, List.set_cons_succ]
    rw [h8]
    clear hRF h8 hcut7 hrun7 htr7 hgs HGb HE2 hgb2
    have hB := below_then hB hBW
    have hb8 := Bs.own hown8
    have hl8 := Lib.hid hb8.len
    by_cases hyes : 0 < n8 ∧ 0 < z % 4
    · obtain ⟨hn80, hz4⟩ := hyes
      obtain ⟨k, hkn, hk⟩ : ∃ k : Nat, k < n8 ∧ z % (n8 : Int) = k := ⟨(z % (n8 : Int)).toNat, by have := Int.emod_lt_of_pos z (show (0 : Int) < (n8 : Int) by omega); omega, by have := Int.emod_nonneg z (show (n8 : Int) ≠ 0 by omega); omega⟩
      obtain ⟨u, hu⟩ : ∃ u : UInt8, z / 256 = (u.toNat : Int) := u8_of (by omega)
      have hne1 : ((n8 : Int) == 0) = false := by simp; omega
      have hn8i : (0 : Int) < n8 := by omega
      obtain ⟨g8, o8, rfl, hc8⟩ := hb8.at_ hn80
      have hck := hc8 k (by rw [hl8.out]; exact hkn)
      generalize zs[k]'(by rw [hl8.out]; exact hkn) = x8 at hck
      obtain ⟨hfz, hlt8, -⟩ := own_free (k := o8 + k) hown8
      have hki : (k : Int) < n8 := by omega
      have hbx := hb8.set k hkn u
      have hBx : Below w2.heap.size w2 (W.setCell ⟨g8, o8 + k, none⟩ (.int .u8 (u.toNat : Int))) := hBW.setCell (p := ⟨g8, o8 + k, none⟩) hlt8 _
      have hB : Below w.heap.size w (W.setCell ⟨g8, o8 + k, none⟩ (.int .u8 (u.toNat : Int))) := hB.setCell (p := ⟨g8, o8 + k, none⟩) (Nat.le_trans hs2 hlt8) _
      have HX := Lib.hid hbx
      clear hbx hb8 hc8 hown8 hBW hW hl8
      go_wp2_with fail
      have hb8 := HX.out
      have hG8 := hG.kept hB
      have HB := Lib.hid hB
      clear hB
      have h16 := scan_ok (some ⟨g8, o8, none⟩) n8 c8 (zs.set k u) _ hb8 (by omega) hG8
      refine h16.mono ?_
      clear h16
      rintro e w8 ⟨A9, n9, c9, y9, off, cd, rfl, hS, hE9, -, hB8⟩
      have hB := below_then HB.out hB8
      have hb8 := hb8.below hB8
      have hcan := scan_canon (zs.set k u).length (zs.set k u) (Nat.le_refl _)
      have hoff := scan_le (zs.set k u)
      rw [hS.out] at hcan hoff
      rw [hb8.len] at hoff
      obtain ⟨hcan1, hcan2, hcan3⟩ := hcan
      dsimp only at hcan1 hcan2 hcan3 hoff
      have hv9 : ∀ y, y ∈ y9 → VE y.E := ve_of_map rfl hcan2
      have h9l := hE9.len
      have h9b : n9 ≤ 200000 := by
        have h3 := len_le_log (y9.map (·.E))
        rw [List.length_map, h9l, hcan3] at h3
        omega
      have h24 := build_ok none 0 0 [] A9 n9 c9 y9 w8 (es_nil _) hE9 hv9 (by omega) (logB (y9.map (·.E))) (List.nil_append _).symm (by omega)
      have hoi : ¬ ((off : Int) < 0) := by omega
      have hoi2 : ¬ ((n8 : Int) < (off : Int)) := by omega
      obtain ⟨A11, hrun11, htr11⟩ := cut_h (P := Tryd.prog) 22 5 Tryd.underlying22 info5 (some ⟨g8, o8, none⟩) n8 c8 off (off : Int) rfl hoff hb8.le
      have hsc := scan_log_only _ hcan2
      rw [hcan3] at hsc
      have HC1 := Lib.hid hcan1
      have HC3 := Lib.hid hcan3
      have H9l := Lib.hid h9l
      have HSC := Lib.hid hsc
      have HT := Lib.hid htr11
      clear hB8 hcan1 hcan2 hcan3 hv9 h9l hsc htr11
      go_wp2_with fail
      refine h24.mono ?_
      clear h24
      rintro e w9 ⟨A12, n12, c12, rfl, hn12, hb12, hB9⟩
      have hn12b : n12 = off := by have h := hn12.out; rw [HC3.out] at h; exact h.symm
      subst hn12b
      have hB := below_then hB hB9
      have hE9 := hE9.below hB9
      have hb8 := hb8.below hB9
      have hb11 := HT.out _ _ hb8
      rw [HC1.out] at hb11
      have h16 := scan_at A11 n12 c8 _ w9 hb11 (by omega) (hG.kept hB) _ _ _ n9 n12 0 HSC.out rfl rfl (by rw [List.length_map, H9l.out])
      clear hB9
      go_wp2_with fail
      refine h16.mono ?_
      clear h16
      rintro e w10 ⟨A13, c13, y13, rfl, hy13, hE13, -, hB10⟩
      have hB := below_then hB hB10
      have hE9 := hE9.below hB10
      have h18 := sameBytes A12 A11 n12 n12 c12 c8 _ _ w10 (hb12.below hB10) (hb11.below hB10) (by omega) true (decide_eq_true rfl).symm
      clear hB10
      go_wp2_with (first | (go_at_call 18; refine h18.mono ?_; clear h18; rintro e w11 ⟨rfl, hB11⟩; have h19 := same19 A13 A9 n9 n9 c13 c9 y13 y9 w11 (hE13.below hB11) (hE9.below hB11) (by omega) true (by simp [hy13.out])) | (go_at_call 19; refine h19.mono ?_; clear h19; rintro e w12 ⟨rfl, hB12⟩))
      go_ret
      exact ⟨rfl, below_then (below_then hB hB11) hB12⟩
    · have hno : n8 = 0 ∨ z % 4 = 0 := by omega
      have hB0 : Below w.heap.size w W := hB
      have hcase : ((n8 : Int) ≤ 0) ∨ (0 < (n8 : Int) ∧ z % 4 ≤ 0) := by omega
      clear hyes hno hown8 hBW hW hl8
      rcases hcase with hc1 | ⟨hc1, hc2⟩
      all_goals
        go_wp2_with fail
        have hG8 := hG.kept hB0
        have HB := Lib.hid hB0
        clear hB hB0
        have h16 := scan_ok (A8) n8 c8 (zs) _ hb8 (by omega) hG8
        refine h16.mono ?_
        clear h16
        rintro e w8 ⟨A9, n9, c9, y9, off, cd, rfl, hS, hE9, -, hB8⟩
        have hB := below_then HB.out hB8
        have hb8 := hb8.below hB8
        have hcan := scan_canon (zs).length (zs) (Nat.le_refl _)
        have hoff := scan_le (zs)
        rw [hS.out] at hcan hoff
        rw [hb8.len] at hoff
        obtain ⟨hcan1, hcan2, hcan3⟩ := hcan
        dsimp only at hcan1 hcan2 hcan3 hoff
        have hv9 : ∀ y, y ∈ y9 → VE y.E := ve_of_map rfl hcan2
        have h9l := hE9.len
        have h9b : n9 ≤ 200000 := by
          have h3 := len_le_log (y9.map (·.E))
          rw [List.length_map, h9l, hcan3] at h3
          omega
        have h24 := build_ok none 0 0 [] A9 n9 c9 y9 w8 (es_nil _) hE9 hv9 (by omega) (logB (y9.map (·.E))) (List.nil_append _).symm (by omega)
        have hoi : ¬ ((off : Int) < 0) := by omega
        have hoi2 : ¬ ((n8 : Int) < (off : Int)) := by omega
        obtain ⟨A11, hrun11, htr11⟩ := cut_h (P := Tryd.prog) 22 5 Tryd.underlying22 info5 (A8) n8 c8 off (off : Int) rfl hoff hb8.le
        have hsc := scan_log_only _ hcan2
        rw [hcan3] at hsc
        have HC1 := Lib.hid hcan1
        have HC3 := Lib.hid hcan3
        have H9l := Lib.hid h9l
        have HSC := Lib.hid hsc
        have HT := Lib.hid htr11
        clear hB8 hcan1 hcan2 hcan3 hv9 h9l hsc htr11
        go_wp2_with fail
        refine h24.mono ?_
        clear h24
        rintro e w9 ⟨A12, n12, c12, rfl, hn12, hb12, hB9⟩
        have hn12b : n12 = off := by have h := hn12.out; rw [HC3.out] at h; exact h.symm
        subst hn12b
        have hB := below_then hB hB9
        have hE9 := hE9.below hB9
        have hb8 := hb8.below hB9
        have hb11 := HT.out _ _ hb8
        rw [HC1.out] at hb11
        have h16 := scan_at A11 n12 c8 _ w9 hb11 (by omega) (hG.kept hB) _ _ _ n9 n12 0 HSC.out rfl rfl (by rw [List.length_map, H9l.out])
        clear hB9
        go_wp2_with fail
        refine h16.mono ?_
        clear h16
        rintro e w10 ⟨A13, c13, y13, rfl, hy13, hE13, -, hB10⟩
        have hB := below_then hB hB10
        have hE9 := hE9.below hB10
        have h18 := sameBytes A12 A11 n12 n12 c12 c8 _ _ w10 (hb12.below hB10) (hb11.below hB10) (by omega) true (decide_eq_true rfl).symm
        clear hB10
        go_wp2_with (first | (go_at_call 18; refine h18.mono ?_; clear h18; rintro e w11 ⟨rfl, hB11⟩; have h19 := same19 A13 A9 n9 n9 c13 c9 y13 y9 w11 (hE13.below hB11) (hE9.below hB11) (by omega) true (by simp [hy13.out])) | (go_at_call 19; refine h19.mono ?_; clear h19; rintro e w12 ⟨rfl, hB12⟩))
        go_ret
        exact ⟨rfl, below_then (below_then hB hB11) hB12⟩
end Go.Proofs.YtcohgkiloaapcaaDoor

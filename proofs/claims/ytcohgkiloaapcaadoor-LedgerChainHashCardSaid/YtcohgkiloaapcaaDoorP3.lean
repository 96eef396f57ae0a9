/- The law LedgerRepair, walked. PRINTED BY gen_repair.py. -/
import Derived.Test.YtcohgkiloaapcaaDoorP2
import Derived.Test.YtcohgkiloaapcaaDoorR4
namespace Go.Proofs.YtcohgkiloaapcaaDoor
open Go.RowKit

theorem bs0 (W : World) : (Instr.buildSlice 22 0 #[]).run Tryd.prog W = .ok (.slice (some ⟨W.heap.size, 0, none⟩) 0 0) (W.alloc (.cells #[] 5)) := by kernel_rfl
/-- The temporaries of the statement that damages the log. -/
def rpD : List Nat := [42, 43, 44, 45, 46, 47, 48, 49, 50, 12]
/-- What its operations yield. -/
def rpPhi (Ag A3 A7 : Option Addr) (g cg n3 c3 : Nat) (ls gs : List UInt8) (w6 : World) (i : Nat) (v : Value) (W : World) : Prop := (List.getD (
  (fun v W => ∃ B, v = .slice (some ⟨B, 0, none⟩) 0 0 ∧ W.ownsRow w6.heap.size 5 1 (.slice (some ⟨B, 0, none⟩) 0 0) 0 []) ::
  (fun v _ => v = .slice A3 n3 c3) ::
  (fun v W => ∃ A c, v = .slice A n3 c ∧ W.ownsRow w6.heap.size 5 1 (.slice A n3 c) n3 (bys ls)) ::
  (fun v _ => v = .slice Ag g cg) ::
  (fun v _ => v = .slice Ag g cg) ::
  (fun v _ => v = .int .i64 (g : Nat)) ::
  (fun v _ => v = .int .i64 ((min g 40 : Nat) : Int)) ::
  (fun v _ => v = .slice A7 (min g 40) cg) ::
  (fun v W => ∃ A c, v = .slice A (n3 + min g 40) c ∧ W.ownsRow w6.heap.size 5 1 (.slice A (n3 + min g 40) c) (n3 + min g 40) (bys (ls ++ gs.take (min g 40)))) ::
  (fun v W => ∃ A c, v = .slice A (n3 + min g 40) c ∧ W.ownsRow w6.heap.size 5 1 (.slice A (n3 + min g 40) c) (n3 + min g 40) (bys (ls ++ gs.take (min g 40)))) ::
  []) i (fun _ _ => True)) v W
theorem scan_ge (es : List En) (r : List UInt8) (h : VEs es) : (logB es).length ≤ (scan (logB es ++ r)).2.1 := by rw [scan_log es r h]; exact Nat.le_add_right _ _
theorem len_le_log (es : List En) : es.length ≤ (logB es).length := by
  induction es with
  | nil => simp
  | cons e es ih => rw [logB_cons, List.length_append, recB_length', List.length_cons]; omega
theorem rowsOf_append (xs ys : List Rec) : rowsOf (xs ++ ys) = rowsOf xs ++ rowsOf ys := by simp [rowsOf]

set_option maxRecDepth 20000 in
set_option maxHeartbeats 4000000 in
theorem law_Repair (A : Option Addr) (n c : Nat) (xs : List Rec) (Ag : Option Addr) (g cg : Nat) (gs : List UInt8) (Am : Option Addr) (nm cm : Nat) (xm : List Rec) (w : World) (hE : EsIn w A n c xs) (hGb : Bs w Ag g cg gs) (hgb : g ≤ 140737488355328) (hM : EsIn w Am nm cm xm) (hG : GOk w) : Calls Tryd.prog 8 #[.slice A n c, .slice Ag g cg, .slice Am nm cm] w (LawQ w) := by
  have h11 := sanity_ok w hG
  go_enter Tryd.func8, Tryd.ntmps8
  go_wp2_with fail
  refine h11.mono ?_
  clear h11
  rintro e w1 ⟨rfl, hB⟩
  have h12 := made_in A n c 6 xs w1 (hE.below hB) (by decide)
  go_wp2_with fail
  refine h12.mono ?_
  clear h12
  rintro e w2 ⟨A1, m, c1, ys, rfl, hE2, -, -, hm, hgd, hB2⟩
  have hB := below_then hB hB2
  have hve := goods_ve hgd
  have hml := hE2.len
  have hlb := log_le hve hml hm
  have h12 := made_in Am nm cm 3 xm w2 (hM.below hB) (by decide)
  clear hgd hB2 hE
  go_wp2_with fail
  refine h12.mono ?_
  clear h12
  rintro e w3 ⟨Af, mf, cf, yf, rfl, hF2, -, -, hmf, hgf, hB3⟩
  have hB := below_then hB hB3
  have hvf := goods_ve hgf
  have hfl := hF2.len
  have hflb := log_le hvf hfl hmf
  have hE2 := hE2.below hB3
  clear hgf hB3 hM
  have h24 := build_ok none 0 0 [] A1 m c1 ys w3 (es_nil _) hE2 hve (by omega) _ (List.nil_append _).symm (by omega)
  have Hml := Lib.hid hml
  have Hfl := Lib.hid hfl
  clear hml hfl
  go_wp2_with fail
  refine h24.mono ?_
  clear h24
  rintro e w4 ⟨A3, n3, c3, rfl, hn3, hb3, hB4⟩
  have hB := below_then hB hB4
  have hF2 := hF2.below hB4
  have hn3b : n3 ≤ 126048 := by have := hn3.out; omega
  have hsl := scan_log_only _ (ves_of hve)
  have h20 := repair_ok A3 n3 c3 _ w4 hb3 (by omega) (hG.kept hB) (logB (ys.map (·.E))) (by rw [hsl, List.take_of_length_le (Nat.le_refl _)])
  have HVE := Lib.hid hve
  have HVF := Lib.hid hvf
  obtain ⟨ls, hls0⟩ : ∃ ls, ls = logB (ys.map (·.E)) := ⟨_, rfl⟩
  rw [← hls0] at h20 hn3 hb3
  have HLS := Lib.hid hls0
  clear hB4 hsl hve hvf hlb hls0 hE2
  go_wp2_with fail
  refine h20.mono ?_
  clear h20
  rintro e w5 ⟨A5, n5, c5, rfl, hn5, hB5, hown5⟩
  have hB := below_then hB hB5
  have hF2 := hF2.below hB5
  have hb3 := hb3.below hB5
  have h18 := sameBytes A5 A3 n5 n3 c5 c3 ls ls w5 (Bs.own hown5) hb3 (by have := hn5.out; have := hn3.out; omega) true (decide_eq_true rfl).symm
  clear hB5 hown5
  go_wp2_with fail
  refine h18.mono ?_
  clear h18
  rintro e w6 ⟨rfl, hB6⟩
  have hB := below_then hB hB6
  have hF2 := hF2.below hB6
  have hb3 := hb3.below hB6
  have hgb6 := hGb.below hB
  clear hB6
  go_upto_region 6 with (fail)
  obtain ⟨A7, hrun7, htr7⟩ := cut_h (P := Tryd.prog) 22 5 Tryd.underlying22 info5 Ag g cg (min g 40) ((min g 40 : Nat) : Int) rfl (by omega) hgb6.le
  have hcut7 := sliceAt_of Tryd.underlying22 hrun7
  have hls := hn3
  have hgs := Lib.hid hgb6.len
  have HB3 := Lib.hid hb3
  have HGb := Lib.hid hgb6
  have hsz : ∀ a : Act, a = a → True := fun _ _ => trivial
  clear hsz
  refine wp_region_rows (by kernel_rfl) ((rpD.erase 42) :: (rpD.erase 43) :: (rpD.erase 44) :: (rpD.erase 45) :: (rpD.erase 46) :: (rpD.erase 47) :: (rpD.erase 48) :: (rpD.erase 49) :: (rpD.erase 50) :: (rpD.erase 12) :: []) rpD 101 rfl (by kernel_rfl)
    (⟨42, [], [2], [], 1⟩ :: ⟨43, [], [2], [], 0⟩ :: ⟨44, [(0, 42), (1, 43)], [8], [0, 1], 2⟩ :: ⟨45, [], [7], [], 0⟩ :: ⟨46, [], [5], [], 0⟩ :: ⟨47, [(4, 46)], [6], [4], 0⟩ :: ⟨48, [(5, 47)], [7], [4, 5], 0⟩ :: ⟨49, [(3, 45), (6, 48)], [8], [3, 4, 5, 6], 0⟩ :: ⟨50, [(2, 44), (7, 49)], [9], [0, 1, 2, 3, 4, 5, 6, 7], 2⟩ :: ⟨12, [(8, 50)], [10], [0, 1, 2, 3, 4, 5, 6, 7, 8], 1⟩ :: []) (by kernel_rfl)
    (rpPhi Ag A3 A7 g cg n3 c3 ls gs w6) ?_ ⟨?_, ?_, ?_, ?_, ?_, ?_, ?_, ?_, ?_, ?_, trivial⟩ ?_
  · intro j r hr hk v W W' h
    match j, hr with
    | 0, hr => obtain rfl := Option.some.inj hr; cases hk
    | 1, _ => exact h
    | 2, hr => obtain rfl := Option.some.inj hr; cases hk
    | 3, _ => exact h
    | 4, _ => exact h
    | 5, _ => exact h
    | 6, _ => exact h
    | 7, _ => exact h
    | 8, hr => obtain rfl := Option.some.inj hr; cases hk
    | 9, hr => obtain rfl := Option.some.inj hr; cases hk
    | j + 10, hr => simp at hr
  · intro us W hW hE
    intro K hK
    with_reducible refine stepV0 (.slice (some ⟨W.heap.size, 0, none⟩) 0 0) (W.alloc (.cells #[] 5)) ?_ ?_ ?_
    · rfl
    · exact ex_buildSlice (vs := #[]) rfl (by simp) (bs0 W)
    · exact hK _ _ (below_then hW (below_al W _)) (fun _ => (below_al W _)) (fun W'' h => ⟨_, rfl, own_below (own_lower (own_empty W 5 1) hW.size) h⟩)
  · intro us W hW hE
    intro K hK
    with_reducible refine stepV0 (.slice A3 n3 c3) (W) ?_ ?_ ?_
    · rfl
    · exact (ex_move rfl (ev_old (by decide) rfl))
    · exact hK _ _ (below_then hW (Below.refl _ _)) (fun _ => (Below.refl _ _)) (fun W'' h => rfl)
  · intro us W hW hE
    obtain ⟨B_0, e0, p0⟩ : ∃ B, us 42 = .slice (some ⟨B, 0, none⟩) 0 0 ∧ W.ownsRow w6.heap.size 5 1 (.slice (some ⟨B, 0, none⟩) 0 0) 0 [] := hE.1
    have e1 : us 43 = .slice A3 n3 c3 := hE.2.1
    obtain ⟨v', w', hr, hown, hB⟩ := run_own w6.drew W 22 22 5 (.int .u8 0) 1 1 Tryd.underlying22 info5 rfl (by decide) (by decide) _ _ _ p0 hW A3 n3 c3 (bys ls) (by rw [bys_length, hls.out, Nat.mul_one]) (HB3.out.below (undrew hW)).rd (bys_one _) (by omega)
    obtain ⟨A', c', rfl, -, -⟩ := own_shape hown
    have hown : w'.ownsRow w6.heap.size 5 1 (.slice A' n3 c') n3 (bys ls) := by simpa using hown
    rw [Nat.zero_add] at hr
    intro K hK
    with_reducible refine stepV0 (.slice A' n3 c') (w') ?_ ?_ ?_
    · rfl
    · exact ex_append rfl (ev_us (N := 101) rfl (by decide) e0) (ev_us (N := 101) rfl (by decide) e1) hr
    · exact hK _ _ hB (fun h => absurd rfl h) (fun W'' h => ⟨_, _, rfl, own_below hown h⟩)
  · intro us W hW hE
    intro K hK
    with_reducible refine stepV0 (.slice Ag g cg) (W) ?_ ?_ ?_
    · rfl
    · exact (ex_move rfl (ev_old (by decide) rfl))
    · exact hK _ _ (below_then hW (Below.refl _ _)) (fun _ => (Below.refl _ _)) (fun W'' h => rfl)
  · intro us W hW hE
    intro K hK
    with_reducible refine stepV0 (.slice Ag g cg) (W) ?_ ?_ ?_
    · rfl
    · exact (ex_move rfl (ev_old (by decide) rfl))
    · exact hK _ _ (below_then hW (Below.refl _ _)) (fun _ => (Below.refl _ _)) (fun W'' h => rfl)
  · intro us W hW hE
    have e4 : us 46 = .slice Ag g cg := hE.1
    intro K hK
    with_reducible refine stepV0 (.int .i64 (g : Nat)) (W) ?_ ?_ ?_
    · rfl
    · exact (ex_len rfl Tryd.underlying22 (ev_us (N := 101) rfl (by decide) e4))
    · exact hK _ _ (below_then hW (Below.refl _ _)) (fun _ => (Below.refl _ _)) (fun W'' h => rfl)
  · intro us W hW hE
    have e5 : us 47 = .int .i64 (g : Nat) := hE.1
    intro K hK
    with_reducible refine stepV0 (.int .i64 ((min g 40 : Nat) : Int)) (W) ?_ ?_ ?_
    · rfl
    · exact ex_min rfl (ev_us (N := 101) rfl (by decide) e5) (show (Value.int IntKind.i64 40) = .int .i64 ((40 : Nat) : Int) from rfl)
    · exact hK _ _ (below_then hW (Below.refl _ _)) (fun _ => (Below.refl _ _)) (fun W'' h => rfl)
  · intro us W hW hE
    have e3 : us 45 = .slice Ag g cg := hE.1
    have e6 : us 48 = .int .i64 ((min g 40 : Nat) : Int) := hE.2.1
    intro K hK
    with_reducible refine stepV0 (.slice A7 (min g 40) cg) (W) ?_ ?_ ?_
    · rfl
    · exact ex_sliceH rfl (ev_us (N := 101) rfl (by decide) e3) (ev_us (N := 101) rfl (by decide) e6) (hcut7 W)
    · exact hK _ _ (below_then hW (Below.refl _ _)) (fun _ => (Below.refl _ _)) (fun W'' h => rfl)
  · intro us W hW hE
    obtain ⟨A_2, c_2, e2, p2⟩ : ∃ A c, us 44 = .slice A n3 c ∧ W.ownsRow w6.heap.size 5 1 (.slice A n3 c) n3 (bys ls) := hE.1
    have e7 : us 49 = .slice A7 (min g 40) cg := hE.2.1
    obtain ⟨v', w', hr, hown, hB⟩ := run_own w6.drew W 22 22 5 (.int .u8 0) 1 1 Tryd.underlying22 info5 rfl (by decide) (by decide) _ _ _ p2 hW A7 (min g 40) cg (bys (gs.take (min g 40))) (by rw [bys_length, List.length_take, hgs.out]; omega) (htr7 _ _ (HGb.out.below (undrew hW))).rd (bys_one _) (by omega)
    obtain ⟨A', c', rfl, -, -⟩ := own_shape hown
    rw [← bys_append] at hown
    intro K hK
    with_reducible refine stepV0 (.slice A' (n3 + min g 40) c') (w') ?_ ?_ ?_
    · rfl
    · exact ex_append rfl (ev_us (N := 101) rfl (by decide) e2) (ev_us (N := 101) rfl (by decide) e7) hr
    · exact hK _ _ hB (fun h => absurd rfl h) (fun W'' h => ⟨_, _, rfl, own_below hown h⟩)
  · intro us W hW hE
    obtain ⟨A_8, c_8, e8, p8⟩ : ∃ A c, us 50 = .slice A (n3 + min g 40) c ∧ W.ownsRow w6.heap.size 5 1 (.slice A (n3 + min g 40) c) (n3 + min g 40) (bys (ls ++ gs.take (min g 40))) := hE.1
    intro K hK
    with_reducible refine stepV0 (.slice A_8 (n3 + min g 40) c_8) (W) ?_ ?_ ?_
    · rfl
    · exact (ex_assign rfl (ev_us (N := 101) rfl (by decide) e8))
    · exact hK _ _ (below_then hW (Below.refl _ _)) (fun _ => (Below.refl _ _)) (fun W'' h => ⟨A_8, c_8, rfl, own_below p8 h⟩)
  · intro us W hW hE
    obtain ⟨A8, c8, h8, hown8⟩ : ∃ A c, us 12 = .slice A (n3 + min g 40) c ∧ W.ownsRow w6.heap.size 5 1 (.slice A (n3 + min g 40) c) (n3 + min g 40) (bys (ls ++ gs.take (min g 40))) := hE 9 _ rfl (.inr rfl)
    have hBW := undrew hW
    simp only [rpD, fillT, Act.put, List.setIfInBounds_toArray, List.set_cons_zero, List.set_cons_succ]
    rw [h8]
    clear hE h8 hcut7 hrun7 htr7
    have hB := below_then hB hBW
    have hF2 := hF2.below hBW
    have hb8 := Bs.own hown8
    have hb3 := hb3.below hBW
    have hd40 : min g 40 ≤ 40 := by omega
    generalize hgd : min g 40 = gd at *
    obtain ⟨dm, hdm0⟩ : ∃ dm, dm = ls ++ gs.take gd := ⟨_, rfl⟩
    rw [← hdm0] at hb8
    have HDM := Lib.hid hdm0
    have Hgd := Lib.hid hgd
    clear hBW hW hown8 hdm0 hgd hgs hgb6 HGb HB3
    have h16 := scan_ok A8 (n3 + gd) c8 dm W hb8 (by omega) (hG.kept hB)
    go_wp2_with fail
    refine h16.mono ?_
    clear h16
    rintro e w8 ⟨A9, n9, c9, y9, off, cd, rfl, hS, hE9, -, hB8⟩
    have hB := below_then hB hB8
    have hF2 := hF2.below hB8
    have hb8 := hb8.below hB8
    have hb3 := hb3.below hB8
    have hcan := scan_canon dm.length dm (Nat.le_refl _)
    have hoff := scan_le dm
    have hge := scan_ge (ys.map (·.E)) (gs.take gd) (ves_of HVE.out)
    rw [← HLS.out, ← HDM.out] at hge
    rw [hS.out] at hcan hoff hge
    rw [hn3.out] at hge
    rw [hb8.len] at hoff
    obtain ⟨hcan1, hcan2, hcan3⟩ := hcan
    dsimp only at hcan1 hcan2 hcan3 hoff hge
    have hv9 : ∀ y, y ∈ y9 → VE y.E := ve_of_map rfl hcan2
    have h20 := repair_ok A8 (n3 + gd) c8 dm w8 hb8 (by omega) (hG.kept hB) (dm.take off) (by rw [hS.out])
    have HC1 := Lib.hid hcan1
    have HC2 := Lib.hid hcan2
    have HC3 := Lib.hid hcan3
    have HV9 := Lib.hid hv9
    clear hB8 hcan1 hcan2 hcan3 hv9
    go_wp2_with fail
    refine h20.mono ?_
    clear h20
    rintro e w9 ⟨A10, n10, c10, rfl, hn10, hB9, hown10⟩
    have hn10' : n10 = off := by have h := hn10.out; rw [HC1.out] at h; rw [← h]; exact HC3.out
    subst hn10'
    have hB := below_then hB hB9
    have hF2 := hF2.below hB9
    have hE9 := hE9.below hB9
    have hb8 := hb8.below hB9
    have hb10 := Bs.own hown10
    obtain ⟨A11, hrun11, htr11⟩ := cut_h (P := Tryd.prog) 22 5 Tryd.underlying22 info5 A8 (n3 + gd) c8 n10 (n10 : Int) rfl hoff hb8.le
    have h18 := sameBytes A10 A11 n10 n10 c10 c8 _ _ w9 hb10 (htr11 _ _ hb8) (by omega) true (decide_eq_true rfl).symm
    have hnlt : ¬ ((n10 : Int) < (n3 : Int)) := by omega
    have hm2 := HC2.out
    have hlf : (logB (yf.map (·.E))).length ≤ 3 * 21008 := hflb
    have h24 := fun W (h1 : Bs W A10 n10 c10 (dm.take n10)) (h2 : Es W Af mf cf yf) => build_ok A10 n10 c10 (dm.take n10) Af mf cf yf W h1 h2 HVF.out (by omega) (logB (y9.map (·.E)) ++ logB (yf.map (·.E))) (by rw [HC1.out]) (by rw [List.length_append, HC3.out]; omega)
    clear hB9 hown10 htr11 hm2
    go_wp2_with fail
    refine h18.mono ?_
    clear h18
    rintro e w10 ⟨rfl, hB10⟩
    have hB := below_then hB hB10
    have hF2 := hF2.below hB10
    have hE9 := hE9.below hB10
    have h24 := h24 w10 (hb10.below hB10) hF2
    clear hB10 hb10
    go_wp2_with fail
    refine h24.mono ?_
    clear h24
    rintro e w11 ⟨A12, n12, c12, rfl, hn12, hb12, hB11⟩
    have hB := below_then hB hB11
    have hF2 := hF2.below hB11
    have hE9 := hE9.below hB11
    have hves : VEs (y9.map (·.E) ++ yf.map (·.E)) := fun e he => (List.mem_append.1 he).elim (fun h => HC2.out e h) (fun h => ves_of HVF.out e h)
    have hsc := scan_log_only _ hves
    rw [logB_append, hn12.out] at hsc
    have h9l := hE9.len
    have hFl := hF2.len
    have hn12b : n12 ≤ 400000 := by have := hn12.out; rw [List.length_append, HC3.out] at this; omega
    have h16 := scan_at A12 n12 c12 _ w11 hb12 (by omega) (hG.kept hB) _ _ _ (n9 + mf) n12 0 hsc rfl rfl (by rw [List.length_append, List.length_map, List.length_map, h9l, hFl])
    have H9l := Lib.hid h9l
    have HFl := Lib.hid hFl
    clear hB11 hsc hb12 h9l hFl hves
    go_wp2_with fail
    refine h16.mono ?_
    clear h16
    rintro e w12 ⟨A13, c13, y13, rfl, hy13, hE13, -, hB12⟩
    have hB := below_then hB hB12
    have hF2 := hF2.below hB12
    have hE9 := hE9.below hB12
    have hB0 := below_al w12 (.cells #[] 25)
    have hoE := own_empty w12 25 3
    have h9b : n9 ≤ 200000 := by
      have h1 := HC3.out
      have h2 : ∀ es : List En, es.length ≤ (logB es).length := fun es => by
        induction es with
        | nil => simp
        | cons e es ih => rw [logB_cons, List.length_append, recB_length', List.length_cons]; omega
      have h3 := h2 (y9.map (·.E))
      rw [List.length_map, H9l.out] at h3
      omega
    clear hB12
    go_wp2_with (at_builtin; refine wpList_of_append rfl _ _ 23 rfl rfl rfl (run_own w12 _ 23 23 25 _ 3 48 Tryd.underlying23 infoE25 rfl (by decide) (by decide) _ _ _ hoE hB0 A9 n9 c9 (rowsOf y9) (by rw [rowsOf_length, H9l.out]) (hE9.rd.below hB0) (rowsOf_one _) (by omega)) ?_)
    intro v13 w13 hown13 hB13
    have hown13 : w13.ownsRow w12.heap.size 25 3 v13 n9 (rowsOf y9) := by simpa using hown13
    clear hoE hB0
    go_wp2_with (at_builtin; refine wpList_of_append rfl _ _ 23 rfl rfl rfl (run_own w12 _ 23 23 25 _ 3 48 Tryd.underlying23 infoE25 rfl (by decide) (by decide) _ _ _ hown13 hB13 Af mf cf (rowsOf yf) (by rw [rowsOf_length, HFl.out]) (hF2.rd.below hB13) (rowsOf_one _) (by omega)) ?_)
    intro v14 w14 hown14 hB14
    rw [← rowsOf_append] at hown14
    obtain ⟨A14, c14, rfl, -, -⟩ := own_shape hown14
    have hE14 : Es w14 A14 (n9 + mf) c14 (y9 ++ yf) := Es.ofOwn hown14 (by rw [List.length_append, H9l.out, HFl.out]) (fun y hy => (List.mem_append.1 hy).elim (fun h => (hE9.bd y h).below hB14) (fun h => (hF2.bd y h).below hB14))
    have h19 := same19 A13 A14 (n9 + mf) (n9 + mf) c13 c14 y13 (y9 ++ yf) w14 (hE13.below hB14) hE14 (by omega) true (by simp [hy13.out])
    clear hown13 hown14 hB13 hE14
    go_wp2_with (go_at_call 19; refine h19.mono ?_; clear h19; rintro e w15 ⟨rfl, hB15⟩)
    go_ret
    exact ⟨rfl, below_then (below_then hB hB14) hB15⟩
end Go.Proofs.YtcohgkiloaapcaaDoor

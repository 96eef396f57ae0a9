/- Contracts: the reference's Same (entries; sequences). -/
import Derived.Test.YtcohgkiloaapcaaDoorG0
namespace Go.Proofs.YtcohgkiloaapcaaDoor
open Go.RowKit

theorem strOf_inj {a b : List UInt8} (h : strOf a = strOf b) : a = b := by rw [← strB_strOf a, h, strB_strOf]

theorem strOf_toList (a : List UInt8) : (strOf a).toList = a := by
  rw [ByteArray.toList_eq]
  rfl
theorem str_ne {a b : List UInt8} (h : ¬ a = b) : ((strOf a).toList == (strOf b).toList) = false := by
  rw [strOf_toList, strOf_toList]
  simpa using h

set_option maxRecDepth 20000 in
theorem same26 (x y : Rec) (w : World) (hx : Bs w x.A x.m x.c x.E.body) (hy : Bs w y.A y.m y.c y.E.body) (R : Bool) (hR : R = true ↔ x.E = y.E) :
    Calls Tryd.prog 26 #[.agg #[.int .i64 x.E.kind, .string (strOf x.E.key), .slice x.A x.m x.c], .agg #[.int .i64 y.E.kind, .string (strOf y.E.key), .slice y.A y.m y.c]] w fun e w' => e = .returned (.bool R) ∧ Below w.heap.size w w' := by
  have hHR := Lib.hid hR
  clear hR
  have hB := below_then (below_al w (.cells #[.int .i64 x.E.kind, .string (strOf x.E.key), .slice x.A x.m x.c] 25)) (below_al _ (.cells #[.int .i64 y.E.kind, .string (strOf y.E.key), .slice y.A y.m y.c] 25))
  have s1 := bs_string (hx.below hB)
  have s2 := bs_string (hy.below hB)
  obtain ⟨⟨k1, key1, b1⟩, A1, m1, c1, o1, e1⟩ := x
  obtain ⟨⟨k2, key2, b2⟩, A2, m2, c2, o2, e2⟩ := y
  dsimp only at *
  by_cases hk : k1 = k2
  · by_cases hkey : key1 = key2
    · subst hk hkey
      by_cases hbd : b1 = b2
      · subst hbd
        obtain rfl : R = true := hHR.out.2 rfl
        clear hx hy
        go_enter Tryd.func26, Tryd.ntmps26
        go_wp2_with fail
        go_ret
        exact ⟨rfl, hB⟩
      · have hF : R = false := by
          cases hr : R with
          | false => rfl
          | true => exact absurd (hHR.out.1 hr) (fun h => hbd (by injection h))
        subst hF
        have hne := str_ne hbd
        clear hx hy hbd
        go_enter Tryd.func26, Tryd.ntmps26
        go_wp2_with fail
        go_ret
        exact ⟨rfl, hB⟩
    · have hF : R = false := by
        cases hr : R with
        | false => rfl
        | true => exact absurd (hHR.out.1 hr) (fun h => hkey (by injection h))
      subst hk
      subst hF
      have hne := str_ne hkey
      clear hx hy hkey s1 s2
      go_enter Tryd.func26, Tryd.ntmps26
      go_wp2_with fail
      go_ret
      exact ⟨rfl, hB⟩
  · have hF : R = false := by
      cases hr : R with
      | false => rfl
      | true => exact absurd (hHR.out.1 hr) (fun h => hk (by injection h))
    subst hF
    have hne : (k1 == k2) = false := by simpa using hk
    clear hx hy hk s1 s2
    go_enter Tryd.func26, Tryd.ntmps26
    go_wp2_with fail
    go_ret
    exact ⟨rfl, hB⟩

theorem range_below {w W : World} {b o : Nat} {cs : List Value} (h : w.rangeAt b o cs) (hB : Below w.heap.size w W) : W.rangeAt b o cs := fun j u hu => cell_step (h j u hu) hB

set_option maxRecDepth 20000 in
set_option maxHeartbeats 1000000 in
theorem same19 (A B : Option Addr) (n m c d : Nat) (xs ys : List Rec) (w : World) (ha : Es w A n c xs) (hb : Es w B m d ys) (hn : n ≤ 1000000) (R : Bool) (hR : R = true ↔ xs.map (·.E) = ys.map (·.E)) :
    Calls Tryd.prog 19 #[.slice A n c, .slice B m d] w fun e w' => e = .returned (.bool R) ∧ Below w.heap.size w w' := by
  have HR := Lib.hid hR
  clear hR
  have hla := Lib.hid ha.len
  have hlb := Lib.hid hb.len
  by_cases hnm : n = m
  · subst hnm
    go_enter Tryd.func19, Tryd.ntmps19
    go_wp2_with fail
    go_loopw [5] (fun s wr => ∃ i : Nat, s = .int .i64 i ∧ i ≤ n ∧ (xs.map (·.E)).take i = (ys.map (·.E)).take i ∧ Below w.heap.size w wr) (fun s _ => n - (intOf s).toNat)
    case atStart => exact ⟨0, rfl, by omega, by simp, Below.refl _ _⟩
    case round =>
      obtain ⟨i, rfl, hi, htk, hB⟩ := hrel
      have HT := Lib.hid htk
      clear htk
      by_cases hlt : i < n
      · have h1 : i < xs.length := by rw [hla.out]; exact hlt
        have h2 : i < ys.length := by rw [hlb.out]; exact hlt
        have har := (ha.below hB).below (below_drewN wr 1)
        have hbr := (hb.below hB).below (below_drewN wr 1)
        obtain ⟨b1, o1, rfl, hr1⟩ := es_range har (by omega)
        obtain ⟨b2, o2, rfl, hr2⟩ := es_range hbr (by omega)
        have hri1 := hr1 i h1
        have hri2 := hr2 i h2
        have hbx := har.bd _ (List.getElem_mem h1)
        have hby := hbr.bd _ (List.getElem_mem h2)
        have hti : (i : Int) < n := by omega
        have hxm : (xs.map (·.E))[i]? = some xs[i].E := by simp [h1]
        have hym : (ys.map (·.E))[i]? = some ys[i].E := by simp [h2]
        generalize xs[i] = x at *
        generalize ys[i] = y at *
        unfold newE at hri1 hri2
        rw [show o1 + 3 * i = o1 + i * 3 by omega] at hri1
        rw [show o2 + 3 * i = o2 + i * 3 by omega] at hri2
        obtain ⟨r, hrE⟩ : ∃ r : Bool, r = true ↔ x.E = y.E := by
          by_cases h : x.E = y.E
          · exact ⟨true, by simp [h]⟩
          · exact ⟨false, by simp [h]⟩
        have HRE := Lib.hid hrE
        have HXM := Lib.hid hxm
        have HYM := Lib.hid hym
        clear hr1 hr2 ha hb har hbr hxm hym
        go_wp2_with fail
        refine wp_region_mono (by kernel_rfl)
          [(17, [18, 20, 21, 22, 23, 24, 25, 26], []), (18, [17, 20, 21, 22, 23, 24, 25, 26], []), (19, [17, 18, 21, 22, 23, 24, 25, 26], [(0, 17), (1, 18)]), (20, [17, 18, 19, 21, 22, 23, 24, 26], [(2, 19)]), (21, [17, 18, 19, 20, 22, 24, 25, 26], []), (22, [17, 18, 19, 20, 21, 24, 25, 26], []), (23, [17, 18, 19, 20, 21, 22, 25, 26], [(4, 21), (5, 22)]), (24, [17, 18, 19, 20, 21, 22, 23, 26], [(6, 23)]), (25, [17, 18, 19, 20, 21, 22, 23, 24], [(3, 20), (7, 24)]), (26, [17, 18, 19, 20, 21, 22, 23, 24, 25], [(8, 25)])]
          (by kernel_rfl) (fun j v W => match j with
            | 0 => v = .slice (some ⟨b1, o1, none⟩) n c
            | 1 => v = .int .i64 (i : Nat)
            | 2 => v = .pointer (some ⟨b1, o1 + i * 3, none⟩)
            | 3 => v = .agg #[.int .i64 x.E.kind, .string (strOf x.E.key), .slice x.A x.m x.c]
            | 4 => v = .slice (some ⟨b2, o2, none⟩) n d
            | 5 => v = .int .i64 (i : Nat)
            | 6 => v = .pointer (some ⟨b2, o2 + i * 3, none⟩)
            | 7 => v = .agg #[.int .i64 y.E.kind, .string (strOf y.E.key), .slice y.A y.m y.c]
            | 8 => v = .bool r
            | 9 => v = .bool (!r)
            | _ => True) (by simp) ⟨?_, ?_, ?_, ?_, ?_, ?_, ?_, ?_, ?_, ?_, trivial⟩ ?_
        · intro us W hW hE K' hK'
          simp only [fillT, Act.put, List.setIfInBounds_toArray, List.set_cons_zero, List.set_cons_succ] at hK' ⊢
          clear hE
          go_wp2_with fail
          exact hK' _ _ (Below.refl _ _) (fun _ _ => rfl)
        · intro us W hW hE K' hK'
          simp only [fillT, Act.put, List.setIfInBounds_toArray, List.set_cons_zero, List.set_cons_succ] at hK' ⊢
          clear hE
          go_wp2_with fail
          exact hK' _ _ (Below.refl _ _) (fun _ _ => rfl)
        · intro us W hW hE K' hK'
          have h0 : us 17 = .slice (some ⟨b1, o1, none⟩) n c := hE.1
          have h1 : us 18 = .int .i64 (i : Nat) := hE.2.1
          simp only [fillT, Act.put, List.setIfInBounds_toArray, List.set_cons_zero, List.set_cons_succ] at hK' ⊢
          rw [h0, h1] at hK' ⊢
          clear hE h0 h1
          go_wp2_with fail
          exact hK' _ _ (Below.refl _ _) (fun _ _ => rfl)
        · intro us W hW hE K' hK'
          have h0 : us 19 = .pointer (some ⟨b1, o1 + i * 3, none⟩) := hE.1
          simp only [fillT, Act.put, List.setIfInBounds_toArray, List.set_cons_zero, List.set_cons_succ] at hK' ⊢
          rw [h0] at hK' ⊢
          clear hE h0
          have hr := range_below hri1 hW
          go_wp2_with ((with_reducible refine load3o b1 (o1 + i * 3) x.E.kind (strOf x.E.key) x.A x.m x.c ?_ ?_ ?_); exact rfl; exact hr)
          exact hK' _ _ (Below.refl _ _) (fun _ _ => rfl)
        · intro us W hW hE K' hK'
          simp only [fillT, Act.put, List.setIfInBounds_toArray, List.set_cons_zero, List.set_cons_succ] at hK' ⊢
          clear hE
          go_wp2_with fail
          exact hK' _ _ (Below.refl _ _) (fun _ _ => rfl)
        · intro us W hW hE K' hK'
          simp only [fillT, Act.put, List.setIfInBounds_toArray, List.set_cons_zero, List.set_cons_succ] at hK' ⊢
          clear hE
          go_wp2_with fail
          exact hK' _ _ (Below.refl _ _) (fun _ _ => rfl)
        · intro us W hW hE K' hK'
          have h0 : us 21 = .slice (some ⟨b2, o2, none⟩) n d := hE.1
          have h1 : us 22 = .int .i64 (i : Nat) := hE.2.1
          simp only [fillT, Act.put, List.setIfInBounds_toArray, List.set_cons_zero, List.set_cons_succ] at hK' ⊢
          rw [h0, h1] at hK' ⊢
          clear hE h0 h1
          go_wp2_with fail
          exact hK' _ _ (Below.refl _ _) (fun _ _ => rfl)
        · intro us W hW hE K' hK'
          have h0 : us 23 = .pointer (some ⟨b2, o2 + i * 3, none⟩) := hE.1
          simp only [fillT, Act.put, List.setIfInBounds_toArray, List.set_cons_zero, List.set_cons_succ] at hK' ⊢
          rw [h0] at hK' ⊢
          clear hE h0
          have hr := range_below hri2 hW
          go_wp2_with ((with_reducible refine load3o b2 (o2 + i * 3) y.E.kind (strOf y.E.key) y.A y.m y.c ?_ ?_ ?_); exact rfl; exact hr)
          exact hK' _ _ (Below.refl _ _) (fun _ _ => rfl)
        · intro us W hW hE K' hK'
          have h0 : us 20 = .agg #[.int .i64 x.E.kind, .string (strOf x.E.key), .slice x.A x.m x.c] := hE.1
          have h1 : us 24 = .agg #[.int .i64 y.E.kind, .string (strOf y.E.key), .slice y.A y.m y.c] := hE.2.1
          simp only [fillT, Act.put, List.setIfInBounds_toArray, List.set_cons_zero, List.set_cons_succ] at hK' ⊢
          rw [h0, h1] at hK' ⊢
          clear hE h0 h1
          go_wp2_with (go_at_call 26; go_must (refine (same26 x y W (hbx.below hW) (hby.below hW) r hrE).mono ?_); rintro e w2 ⟨rfl, hB2⟩)
          exact hK' _ _ hB2 (fun _ _ => rfl)
        · intro us W hW hE K' hK'
          have h0 : us 25 = .bool r := hE.1
          simp only [fillT, Act.put, List.setIfInBounds_toArray, List.set_cons_zero, List.set_cons_succ] at hK' ⊢
          rw [h0] at hK' ⊢
          clear hE h0
          go_wp2_with fail
          exact hK' _ _ (Below.refl _ _) (fun _ _ => rfl)
        · intro us W hW hE
          obtain ⟨h17, h18, h19, h20, h21, h22, h23, h24, h25, h26, -⟩ := hE
          simp only [List.map_cons, List.map_nil, fillT, Act.put, List.setIfInBounds_toArray, List.set_cons_zero, List.set_cons_succ] at h17 h18 h19 h20 h21 h22 h23 h24 h25 h26 ⊢
          rw [h17, h18, h19, h20, h21, h22, h23, h24, h25, h26]
          clear h17 h18 h19 h20 h21 h22 h23 h24 h25 h26 hbx hby hri1 hri2 hrE
          have hBW := below_then hB (undrew hW)
          cases r with
          | true =>
            go_wp2_with fail
            go_roundw
            case rel =>
              refine ⟨i + 1, rfl, by omega, ?_, hBW⟩
              rw [List.take_add_one, List.take_add_one, HT.out, HXM.out, HYM.out, HRE.out.1 rfl]
            case measure => simp [intOf]; omega
          | false =>
            have hF : R = false := by
              cases hr : R with
              | false => rfl
              | true =>
                have h := HR.out.1 hr
                have e := HXM.out
                rw [h, HYM.out] at e
                exact absurd (HRE.out.2 (Option.some.inj e).symm) (by simp)
            have HF := Lib.hid hF
            clear hF
            go_wp2_with fail
            go_ret
            exact ⟨ret_bool (by rw [HF.out]), hBW⟩
      · obtain rfl : i = n := by omega
        have hT : R = true := HR.out.2 (by
          have := HT.out
          rwa [List.take_of_length_le (by rw [List.length_map, hla.out]; omega), List.take_of_length_le (by rw [List.length_map, hlb.out]; omega)] at this)
        have HF := Lib.hid hT
        clear hT
        go_wp2_with fail
        go_ret
        exact ⟨ret_bool (by rw [HF.out]), hB⟩
  · have hF : R = false := by
      cases hr : R with
      | false => rfl
      | true =>
        have h := congrArg List.length (HR.out.1 hr)
        rw [List.length_map, List.length_map, hla.out, hlb.out] at h
        exact absurd h hnm
    have HF := Lib.hid hF
    have hnm2 : ((n : Int) != (m : Int)) = true := by simp; omega
    clear ha hb hF
    go_enter Tryd.func19, Tryd.ntmps19
    go_wp2_with fail
    go_ret
    exact ⟨ret_bool (by rw [HF.out]), Below.refl _ _⟩
end Go.Proofs.YtcohgkiloaapcaaDoor

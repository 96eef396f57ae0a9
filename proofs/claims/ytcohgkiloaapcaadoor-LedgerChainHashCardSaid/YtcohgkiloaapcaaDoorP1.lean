/- The law LedgerTruncation, walked; what it and LedgerCorruption count. -/
import Derived.Test.YtcohgkiloaapcaaDoorP0
namespace Go.Proofs.YtcohgkiloaapcaaDoor
open Go.RowKit

/-- After i entries: how many logs of the first entries end at or before k, and where the last of them ends. -/
structure CutAt (es : List En) (k i cnt e : Nat) : Prop where
  le : cnt ≤ i
  at_ : e = (logB (es.take cnt)).length
  ek : e ≤ k
  gt : ∀ j, cnt < j → j ≤ i → k < (logB (es.take j)).length
theorem CutAt.start (es : List En) (k : Nat) : CutAt es k 0 0 0 := ⟨Nat.le_refl _, by simp [logB], Nat.zero_le _, fun j h1 h2 => by omega⟩
theorem CutAt.yes {es : List En} {k i : Nat} (h : (logB (es.take (i + 1))).length ≤ k) : CutAt es k (i + 1) (i + 1) (logB (es.take (i + 1))).length := ⟨Nat.le_refl _, rfl, h, fun j h1 h2 => by omega⟩
theorem CutAt.no {es : List En} {k i cnt e : Nat} (hc : CutAt es k i cnt e) (h : ¬ (logB (es.take (i + 1))).length ≤ k) : CutAt es k (i + 1) cnt e :=
  ⟨by have := hc.le; omega, hc.at_, hc.ek, fun j h1 h2 => by
    rcases Nat.lt_or_ge j (i + 1) with h3 | h3
    · exact hc.gt j h1 (by omega)
    · have : j = i + 1 := by omega
      subst this
      omega⟩

theorem log_split (es : List En) (cnt : Nat) (h : cnt < es.length) : logB es = logB (es.take cnt ++ [es[cnt]]) ++ logB (es.drop (cnt + 1)) := by
  conv => lhs; rw [← List.take_append_drop (cnt + 1) es, List.take_succ_eq_append_getElem h]
  rw [logB_append]
theorem scan_trunc {es : List En} {k cnt e : Nat} (hv : VEs es) (hk : k ≤ (logB es).length) (h : CutAt es k es.length cnt e) : scan ((logB es).take k) = (es.take cnt, e, if e = k then 0 else 271) := by
  have hle := h.le
  rcases Nat.lt_or_ge cnt es.length with hlt | hge
  · have hg := h.gt (cnt + 1) (by omega) (by omega)
    rw [List.take_succ_eq_append_getElem hlt] at hg
    have hc := scan_cut (es.take cnt) es[cnt] (logB (es.drop (cnt + 1))) (fun x hx => hv x (List.mem_of_mem_take hx)) (hv _ (List.getElem_mem hlt)) k (by rw [← h.at_]; exact h.ek) hg
    rw [← log_split es cnt hlt, ← h.at_] at hc
    exact hc
  · obtain rfl : cnt = es.length := by omega
    have he := h.at_
    have hek := h.ek
    rw [List.take_of_length_le (Nat.le_refl _)] at he ⊢
    obtain rfl : e = k := by omega
    rw [List.take_of_length_le (by omega), if_pos rfl, scan_log_only es hv, he]
theorem scan_corrupt {es : List En} {k cnt e : Nat} (hv : VEs es) (hk : k < (logB es).length) (h : CutAt es k es.length cnt e) (h4 : e + 4 ≤ k) (b : UInt8) (hb : b ≠ (logB es).getD k 0) : scan ((logB es).set k b) = (es.take cnt, e, 270) := by
  have hle := h.le
  rcases Nat.lt_or_ge cnt es.length with hlt | hge
  · have hg := h.gt (cnt + 1) (by omega) (by omega)
    rw [List.take_succ_eq_append_getElem hlt] at hg
    have hs := log_split es cnt hlt
    have hc := scan_damaged (es.take cnt) es[cnt] (logB (es.drop (cnt + 1))) (fun x hx => hv x (List.mem_of_mem_take hx)) (hv _ (List.getElem_mem hlt)) k (by rw [← h.at_]; exact h4) hg b (by rw [← hs]; exact hb)
    rw [← hs, ← h.at_] at hc
    exact hc
  · obtain rfl : cnt = es.length := by omega
    have he := h.at_
    rw [List.take_of_length_le (Nat.le_refl _)] at he
    omega
theorem map_take (ys : List Rec) (i : Nat) : (ys.take i).map (·.E) = (ys.map (·.E)).take i := List.map_take

set_option maxRecDepth 20000 in
set_option maxHeartbeats 2000000 in
theorem law_Truncation (A : Option Addr) (n c : Nat) (xs : List Rec) (z : Int) (w : World) (hE : EsIn w A n c xs) (hz : 0 ≤ z ∧ z < 65536) (hG : GOk w) : Calls Tryd.prog 6 #[.slice A n c, .int .u16 z] w (LawQ w) := by
  have h11 := sanity_ok w hG
  obtain ⟨hz0, hz1⟩ := hz
  go_enter Tryd.func6, Tryd.ntmps6
  go_wp2_with fail
  refine h11.mono ?_
  clear h11
  rintro e w1 ⟨rfl, hB⟩
  have h12 := made_in A n c 8 xs w1 (hE.below hB) (by decide)
  go_wp2_with fail
  refine h12.mono ?_
  clear h12
  rintro e w2 ⟨A1, m, c1, ys, rfl, hE2, -, -, hm, hgd, hB2⟩
  have hB := below_then hB hB2
  have hve := goods_ve hgd
  have hml := hE2.len
  have hlb := log_le hve hml hm
  clear hgd hB2 hE
  have h24 := build_ok none 0 0 [] A1 m c1 ys w2 (es_nil _) hE2 hve (by omega) _ (List.nil_append _).symm (by omega)
  have Hml := Lib.hid hml
  clear hml
  go_wp2_with fail
  refine h24.mono ?_
  clear h24
  rintro e w3 ⟨A3, n3, c3, rfl, hn3, hb3, hB3⟩
  have hB := below_then hB hB3
  have hE2 := hE2.below hB3
  have hn3b : n3 ≤ 200000 := by have := hn3.out; omega
  obtain ⟨k, hkn, hk⟩ : ∃ k : Nat, k ≤ n3 ∧ z % ((n3 : Int) + 1) = k := ⟨(z % ((n3 : Int) + 1)).toNat, by have := Int.emod_lt_of_pos z (show (0 : Int) < (n3 : Int) + 1 by omega); omega, by have := Int.emod_nonneg z (show (n3 : Int) + 1 ≠ 0 by omega); omega⟩
  have hne1 : ((n3 : Int) + 1 == 0) = false := by simp; omega
  clear hB3 hlb
  have hmono : ∀ i, i ≤ m → (logB ((ys.map (·.E)).take i)).length ≤ n3 := fun i hi => by
    have h1 := hn3.out
    conv at h1 => lhs; rw [← List.take_append_drop i (ys.map (·.E)), logB_append]
    rw [List.length_append] at h1
    omega
  go_wp2_with fail
  rw [hk]
  clear hk
  go_loopw [10, 11, 12] (fun x y s wr => ∃ i cnt e : Nat, s = .int .i64 i ∧ x = .int .i64 cnt ∧ y = .int .i64 e ∧ i ≤ m ∧ CutAt (ys.map (·.E)) k i cnt e ∧ Below w3.heap.size w3 wr) (fun _ _ s _ => m - (intOf s).toNat)
  case atStart => exact ⟨0, 0, 0, rfl, rfl, rfl, by omega, CutAt.start _ _, Below.refl _ _⟩
  case round =>
    obtain ⟨i, cnt, e, rfl, rfl, rfl, hi, hcut, hBr⟩ := hrel
    by_cases hlt : i < m
    · have hlti : (i : Int) < m := by omega
      obtain ⟨A', hrun, htr⟩ := cut_hE A1 m c1 (i + 1) ((i : Int) + 1) (by omega) (by omega) hE2.le
      have hE' := htr _ _ (hE2.below hBr)
      have hmi := hmono (i + 1) (by omega)
      have h24 := build_ok none 0 0 [] A' (i + 1) c1 (ys.take (i + 1)) wr (es_nil _) hE' (fun y hy => hve y (List.mem_of_mem_take hy)) (by omega) (logB ((ys.map (·.E)).take (i + 1))) (by rw [map_take]; exact (List.nil_append _).symm) (by omega)
      have HC := Lib.hid hcut
      have HM := Lib.hid hmono
      clear hcut hmono htr hE'
      go_wp2_with (go_at_call 24; refine h24.mono ?_; clear h24; rintro e w5 ⟨A5, n5, c5, rfl, hn5, hb5, hB5⟩; by_cases hle : n5 ≤ k)
      · go_roundw
        case rel => exact ⟨i + 1, i + 1, n5, rfl, rfl, rfl, by omega, by have h := CutAt.yes (es := ys.map (·.E)) (k := k) (i := i) (by rw [hn5.out]; exact hle); rwa [hn5.out] at h, below_then hBr hB5⟩
        case measure => simp [intOf]; omega
      · go_roundw
        case rel => exact ⟨i + 1, cnt, e, rfl, rfl, rfl, by omega, HC.out.no (by rw [hn5.out]; exact hle), below_then hBr hB5⟩
        case measure => simp [intOf]; omega
    · obtain rfl : i = m := by omega
      have hle := hcut.le
      have hek := hcut.ek
      obtain ⟨A6, hrun6, htr6⟩ := cut_h (P := Tryd.prog) 22 5 Tryd.underlying22 info5 A3 n3 c3 k k rfl hkn hb3.le
      obtain ⟨A7, hrun7, htr7⟩ := cut_hE A1 i c1 cnt cnt rfl hle hE2.le
      have hlen : (ys.map (·.E)).length = i := by rw [List.length_map, Hml.out]
      have hsc := scan_trunc (ves_of hve) (by rw [hn3.out]; exact hkn) (by rw [hlen]; exact hcut)
      have hBw := below_then hB hBr
      have hb6 := htr6 _ _ (hb3.below hBr)
      have hE7 := htr7 _ _ (hE2.below hBr)
      have hGr := hG.kept hBw
      have htk : ((ys.map (·.E)).take cnt).length = cnt := by rw [List.length_take, hlen]; omega
      clear hmono htr6 htr7 hcut
      by_cases hek2 : e = k
      · subst hek2
        rw [if_pos rfl] at hsc
        have h16 := scan_at A6 e c3 _ wr hb6 (by omega) hGr _ _ _ cnt e 0 hsc rfl rfl htk
        have Htk := Lib.hid htk
        clear hsc htk hlen
        go_wp2_with (first | (go_at_call 16; refine h16.mono ?_; clear h16; rintro e w6 ⟨A8, c8, ys8, rfl, hy8, hE8, -, hB8⟩; have h19 := same19 A8 A7 cnt cnt c8 c1 ys8 (ys.take cnt) w6 hE8 (hE7.below hB8) (by omega) true (by simp [hy8.out, map_take])) | (go_at_call 19; refine h19.mono ?_; clear h19; rintro e w7 ⟨rfl, hB9⟩))
        go_ret
        exact ⟨rfl, below_then (below_then hBw hB8) hB9⟩
      · rw [if_neg hek2] at hsc
        have h16 := scan_at A6 k c3 _ wr hb6 (by omega) hGr _ _ _ cnt e 271 hsc rfl rfl htk
        have Htk := Lib.hid htk
        have hne2 : ((e : Int) == (k : Int)) = false := by simp; omega
        clear hsc htk hlen
        go_wp2_with (first | (go_at_call 16; refine h16.mono ?_; clear h16; rintro e w6 ⟨A8, c8, ys8, rfl, hy8, hE8, -, hB8⟩; have h19 := same19 A8 A7 cnt cnt c8 c1 ys8 (ys.take cnt) w6 hE8 (hE7.below hB8) (by omega) true (by simp [hy8.out, map_take])) | (go_at_call 19; refine h19.mono ?_; clear h19; rintro e w7 ⟨rfl, hB9⟩))
        go_ret
        exact ⟨rfl, below_then (below_then hBw hB8) hB9⟩
end Go.Proofs.YtcohgkiloaapcaaDoor

/- Contracts: the reference's Record and Log. -/
import Derived.Test.YtcohgkiloaapcaaDoorJ0
namespace Go.Proofs.YtcohgkiloaapcaaDoor
open Go.RowKit

set_option maxRecDepth 20000 in
set_option maxHeartbeats 1000000 in
theorem refRecord (y : Rec) (w : World) (hb : Bs w y.A y.m y.c y.E.body) (hv : VE y.E) (zs : List UInt8) (hz : zs = recB (encEn y.E)) :
    Calls Tryd.prog 27 #[.agg #[.int .i64 y.E.kind, .string (strOf y.E.key), .slice y.A y.m y.c]] w (RetB 5 zs w) := by
  obtain ⟨k, hk, hvk⟩ := hv.kind
  have hlen := hb.len
  have hZ := Lib.hid hz
  have hel := encEn_len hv
  rw [hk]
  have hB := below_al w (.cells #[.int .i64 k, .string (strOf y.E.key), .slice y.A y.m y.c] 25)
  have hsz : (w.alloc (.cells #[.int .i64 k, .string (strOf y.E.key), .slice y.A y.m y.c] 25)).heap.size = w.heap.size + 1 := by simp
  have hc38 := refEnc_yes k (strOf y.E.key) y.A y.m y.c y.E.body (w.alloc (.cells #[.int .i64 k, .string (strOf y.E.key), .slice y.A y.m y.c] 25)) (hb.below hB) (by rw [strOf_size, ← hlen]; exact hvk) (encEn y.E) (by rw [encEn, hk, strB_strOf]; rfl)
  have hnew := heap_alloc_new w (.cells #[.int .i64 k, .string (strOf y.E.key), .slice y.A y.m y.c] 25)
  have hri : (w.alloc (.cells #[.int .i64 k, .string (strOf y.E.key), .slice y.A y.m y.c] 25)).rangeAt w.heap.size 0 [.int .i64 k, .string (strOf y.E.key), .slice y.A y.m y.c] := World.rangeAt_of_block hnew 0 3
  generalize encEn y.E = enc at *
  clear hz hk hlen hb hv hvk
  go_enter Tryd.func27, Tryd.ntmps27
  go_wp2_with (first | ((with_reducible refine load3o w.heap.size 0 k (strOf y.E.key) y.A y.m y.c ?_ ?_ ?_); exact rfl; exact hri) | (go_at_call 38; go_must (refine hc38.mono ?_); rintro e w1 ⟨A1, n1, c1, rfl, hL1, hB1, hown1⟩; have hn1 : n1 ≤ 21000 := (by have := hL1.out; omega); have hw1 : (n1 : Int) % 4294967296 = n1 := (by omega); have ho1 := own_empty w1 5 1; have hBa := below_al w1 (.cells #[] 5); have hc39 := refWord w1 _ 0 0 [] n1 (by omega) _ _ rfl ho1 hBa (by omega)) | (go_at_call 39; go_must (refine hc39.mono ?_); rintro e w2 ⟨A2, n2, c2, rfl, hL2, hB2, hown2⟩) | (at_builtin; refine wpList_of_append rfl _ _ 22 rfl rfl rfl (run_own w1 _ 22 22 5 (.int .u8 0) 1 1 Tryd.underlying22 info5 rfl (by decide) (by decide) _ _ _ hown2 hB2 _ _ _ (bys enc) ?_ ((Bs.own hown1).rd.below hB2) (bys_one _) ?_) ?_))
  · rw [bys_length, hL1.out]; simp
  · have := hL2.out; simp [le4] at this; omega
  · intro v3 w3 hown3 hB3
    obtain ⟨A3, c3, rfl, -, -⟩ := own_shape hown3
    rw [← bys_append] at hown3
    have hn2 : n2 = 4 := by have := hL2.out; simp [le4] at this; omega
    subst hn2
    have hnn : 4 + n1 ≤ 1000000000 := by omega
    obtain ⟨zz, hzz⟩ : ∃ zz, zz = crc ([] ++ le4 n1 ++ enc) := ⟨_, rfl⟩
    have hzl : zz < 4294967296 := by rw [hzz]; exact crc_lt _
    have hc40 := refChecksum A3 (4 + n1) c3 _ w3 (Bs.own hown3) hnn zz hzz
    have hc39b := refWord w1 A3 (4 + n1) c3 _ zz hzl w3 _ rfl hown3 hB3 hnn
    have HZZ := Lib.hid hzz
    clear hzz hc39 hc38
    go_wp2_with (first | (go_at_call 40; go_must (refine hc40.mono ?_); rintro e w5 ⟨rfl, rfl⟩) | (go_at_call 39; go_must (refine hc39b.mono ?_); rintro e w5 ⟨A5, n5, c5, rfl, hL5, hB5, hown5⟩))
    go_ret
    have hBw := below_then hB hB1
    refine ⟨A5, n5, c5, rfl, ?_, below_then hBw hB5, ?_⟩
    · have e : zs = [] ++ le4 n1 ++ enc ++ le4 zz := by rw [hZ.out, recB, HZZ.out, hL1.out]; rfl
      rw [e]; exact hL5
    · have e : zs = [] ++ le4 n1 ++ enc ++ le4 zz := by rw [hZ.out, recB, HZZ.out, hL1.out]; rfl
      rw [e]; exact own_lower hown5 hBw.size

set_option maxRecDepth 20000 in
set_option maxHeartbeats 1000000 in
theorem refLog (B : Option Addr) (m d : Nat) (ys : List Rec) (w : World) (hE : Es w B m d ys) (hv : ∀ y, y ∈ ys → VE y.E) (hm : m ≤ 1000)
    (zs : List UInt8) (hz : zs = logB (ys.map (·.E))) :
    Calls Tryd.prog 13 #[.slice B m d] w (RetB 5 zs w) := by
  have hZ := Lib.hid hz
  have hL := Lib.hid hE.len
  clear hz
  go_enter Tryd.func13, Tryd.ntmps13
  go_wp2_with fail
  go_loopw [3, 4] (fun v s wr => ∃ (i n1 : Nat), s = .int .i64 i ∧ wr.ownsRow w.heap.size 5 1 v n1 (bys (logB ((ys.take i).map (·.E)))) ∧ i ≤ m ∧ Below w.heap.size w wr) (fun _ s _ => m - (intOf s).toNat)
  case atStart => exact ⟨0, 0, rfl, by simpa [logB, bys] using own_empty w 5 1, by omega, below_al w _⟩
  case round =>
    obtain ⟨i, n1, rfl, hown, hi, hB⟩ := hrel
    obtain ⟨Av, cv, rfl, -, -⟩ := own_shape hown
    by_cases hlt : i < m
    · have hil : i < ys.length := by rw [hL.out]; exact hlt
      obtain ⟨b, o, rfl, hr⟩ := es_range (hE.below hB) (by omega)
      have hri := hr i hil
      have hbi := (hE.bd _ (List.getElem_mem hil)).below hB
      have hvi := hv _ (List.getElem_mem hil)
      have hlti : (i : Int) < m := by omega
      have hst : ys.take (i + 1) = ys.take i ++ [ys[i]] := List.take_succ_eq_append_getElem hil
      have hbnd : n1 ≤ i * 21008 := by
        have h1 := hown.1
        have h2 := logB_len (es := (ys.take i).map (·.E)) (fun e he => by
          obtain ⟨y, hy, rfl⟩ := List.mem_map.1 he
          exact hv y (List.mem_of_mem_take hy))
        rw [bys_length] at h1
        rw [List.length_map, List.length_take] at h2
        have : min i ys.length = i := by omega
        rw [this] at h2
        omega
      have HS := Lib.hid (show logB ((ys.take (i + 1)).map (·.E)) = logB ((ys.take i).map (·.E)) ++ recB (encEn ys[i].E) by
        rw [hst, List.map_append, logB_append, List.map_cons, List.map_nil, logB_one])
      have hel := encEn_len hvi
      generalize hqs : logB ((ys.take i).map (·.E)) = qs at *
      generalize ys[i] = y at *
      have hrl := recB_length' (encEn y.E)
      unfold newE at hri
      rw [show o + 3 * i = o + i * 3 by omega] at hri
      have hrec := refRecord y wr hbi hvi _ rfl
      have HRL := Lib.hid hrl
      have HB := Lib.hid hB
      clear hst hrl hqs hr hE hv hbi hB hL
      go_wp2_with (first | ((with_reducible refine load3o b (o + i * 3) y.E.kind (strOf y.E.key) y.A y.m y.c ?_ ?_ ?_); exact rfl; exact hri) | (go_at_call 27; go_must (refine hrec.mono ?_); rintro e w1 ⟨A2, n2, c2, rfl, hL2, hB2, hown2⟩; have hBw := below_then HB.out hB2; have hown1 := own_below hown hB2) | (at_builtin; refine wpList_of_append rfl _ _ 22 rfl rfl rfl (run_own w _ 22 22 5 (.int .u8 0) 1 1 Tryd.underlying22 info5 rfl (by decide) (by decide) _ _ _ hown1 hBw _ _ _ (bys (recB (encEn y.E))) ?_ (Bs.own hown2).rd (bys_one _) ?_) ?_))
      · rw [bys_length, hL2.out]; simp
      · have := hL2.out; have := HRL.out; omega
      · intro v3 w3 hown3 hB3
        rw [← bys_append] at hown3
        go_wp2_with fail
        go_roundw
        case rel => exact ⟨i + 1, n1 + n2, rfl, by rw [HS.out]; exact hown3, by omega, hB3⟩
        case measure => simp [intOf]; omega
    · obtain rfl : i = m := by omega
      go_wp2_with fail
      go_ret
      have e : zs = logB ((ys.take i).map (·.E)) := by rw [hZ.out, List.take_of_length_le (by rw [hL.out]; omega)]
      rw [e]
      exact RetB.mk hB hown
end Go.Proofs.YtcohgkiloaapcaaDoor

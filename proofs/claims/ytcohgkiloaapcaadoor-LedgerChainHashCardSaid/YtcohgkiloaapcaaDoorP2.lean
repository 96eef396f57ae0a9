/- The law LedgerCorruption, walked. -/
import Derived.Test.YtcohgkiloaapcaaDoorP1
namespace Go.Proofs.YtcohgkiloaapcaaDoor
open Go.RowKit

theorem u8_of {z : Int} (h : 0 ≤ z ∧ z < 256) : ∃ u : UInt8, z = (u.toNat : Int) := ⟨UInt8.ofNat z.toNat, by rw [toNat_ofNat (by omega)]; omega⟩
theorem xor_u8 (x u : UInt8) : bits .xor .u8 (x.toNat : Int) (u.toNat : Int) = ((x ^^^ u).toNat : Int) := by
  rw [xor8 _ _ x.toNat_lt u.toNat_lt, UInt8.toNat_xor]
theorem xor_ne {x u : UInt8} (h : u.toNat ≠ 0) : x ^^^ u ≠ x := fun e => by
  have h1 := congrArg UInt8.toNat e
  rw [UInt8.toNat_xor] at h1
  have h2 : x.toNat ^^^ u.toNat = x.toNat ^^^ 0 := by rw [h1, Nat.xor_zero]
  exact h (xor_cancel h2)
theorem own_free {w : World} {base : Nat} {e : TypeId} {size n c k : Nat} {g o : Nat} {xs : List Value} (h : w.ownsRow base e size (.slice (some ⟨g, o, none⟩) n c) n xs) : w.frozen? ⟨g, k, none⟩ = false ∧ base ≤ g ∧ o = 0 := by
  obtain ⟨g', cap, cur, e1, e2, e3, _⟩ := h.2.resolve_left (fun h => by simp at h)
  injection e1 with e1 _ _
  injection e1 with e1
  injection e1 with e1 e1'
  subst e1
  exact ⟨by simp [World.frozen?, e3], e2, e1'⟩
theorem log_pos {es : List En} (h : 0 < es.length) : 8 ≤ (logB es).length := by
  cases es with
  | nil => simp at h
  | cons e es => rw [logB_cons, List.length_append, recB_length']; omega

set_option maxRecDepth 20000 in
set_option maxHeartbeats 4000000 in
theorem law_Corruption (A : Option Addr) (n c : Nat) (xs : List Rec) (z z2 : Int) (w : World) (hE : EsIn w A n c xs) (hz : 0 ≤ z ∧ z < 65536) (hz2 : 0 ≤ z2 ∧ z2 < 256) (hG : GOk w) : Calls Tryd.prog 7 #[.slice A n c, .int .u16 z, .int .u8 z2] w (LawQ w) := by
  have h11 := sanity_ok w hG
  obtain ⟨u, rfl⟩ := u8_of hz2
  obtain ⟨hz0, hz1⟩ := hz
  clear hz2
  go_enter Tryd.func7, Tryd.ntmps7
  go_wp2_with fail
  refine h11.mono ?_
  clear h11
  rintro e w1 ⟨rfl, hB⟩
  have h12 := made_in A n c 8 xs w1 (hE.below hB) (by decide)
  go_wp2_with fail
  refine h12.mono ?_
  clear h12
  rintro e w2 ⟨A1, m, c1, ys, rfl, hE2, -, -, hm, hgd, hB2⟩
  have hB := below_then hB hB2
  have hve := goods_ve hgd
  have hml := hE2.len
  have hlb := log_le hve hml hm
  clear hgd hB2 hE
  have h24 := build_ok none 0 0 [] A1 m c1 ys w2 (es_nil _) hE2 hve (by omega) _ (List.nil_append _).symm (by omega)
  have Hml := Lib.hid hml
  clear hml
  go_wp2_with fail
  refine h24.mono ?_
  clear h24
  rintro e w3 ⟨A3, n3, c3, rfl, hn3, hb3, hB3⟩
  have hB := below_then hB hB3
  have hE2 := hE2.below hB3
  have hn3b : n3 ≤ 200000 := by have := hn3.out; omega
  clear hB3 hlb
  by_cases hm0 : m = 0
  · subst hm0
    go_wp2_with fail
    go_ret
    exact ⟨rfl, hB⟩
  have hm1 : ((m : Int) == 0) = false := by simp; omega
  by_cases hu0 : u.toNat = 0
  · have hu1 : ((u.toNat : Int) == 0) = true := by simp [hu0]
    have HU := Lib.hid hu0
    clear hu0 hm0
    go_wp2_with fail
    go_ret
    exact ⟨rfl, hB⟩
  have hu1 : ((u.toNat : Int) == 0) = false := by simp; omega
  have HU := Lib.hid hu0
  have hlen : (ys.map (·.E)).length = m := by rw [List.length_map, Hml.out]
  have hn38 : 8 ≤ n3 := by have := log_pos (es := ys.map (·.E)) (by omega); have := hn3.out; omega
  obtain ⟨k, hkn, hk⟩ : ∃ k : Nat, k < n3 ∧ z % (n3 : Int) = k := ⟨(z % (n3 : Int)).toNat, by have := Int.emod_lt_of_pos z (show (0 : Int) < (n3 : Int) by omega); omega, by have := Int.emod_nonneg z (show (n3 : Int) ≠ 0 by omega); omega⟩
  have hne1 : ((n3 : Int) == 0) = false := by simp; omega
  have Hlen := Lib.hid hlen
  clear hu0 hm0 hlen
  go_wp2_with fail
  rw [hk]
  clear hk
  go_loopw [12, 13, 14] (fun x y s wr => ∃ i cnt e : Nat, s = .int .i64 i ∧ x = .int .i64 cnt ∧ y = .int .i64 e ∧ i ≤ m ∧ CutAt (ys.map (·.E)) k i cnt e ∧ Below w3.heap.size w3 wr) (fun _ _ s _ => m - (intOf s).toNat)
  case atStart => exact ⟨0, 0, 0, rfl, rfl, rfl, by omega, CutAt.start _ _, Below.refl _ _⟩
  case round =>
    obtain ⟨i, cnt, e, rfl, rfl, rfl, hi, hcut, hBr⟩ := hrel
    by_cases hlt : i < m
    · have hlti : (i : Int) < m := by omega
      obtain ⟨A', hrun, htr⟩ := cut_hE A1 m c1 (i + 1) ((i : Int) + 1) (by omega) (by omega) hE2.le
      have hE' := htr _ _ (hE2.below hBr)
      have hmi : (logB ((ys.map (·.E)).take (i + 1))).length ≤ n3 := by
        have h1 := hn3.out
        conv at h1 => lhs; rw [← List.take_append_drop (i + 1) (ys.map (·.E)), logB_append]
        rw [List.length_append] at h1
        omega
      have h24 := build_ok none 0 0 [] A' (i + 1) c1 (ys.take (i + 1)) wr (es_nil _) hE' (fun y hy => hve y (List.mem_of_mem_take hy)) (by omega) (logB ((ys.map (·.E)).take (i + 1))) (by rw [map_take]; exact (List.nil_append _).symm) (by omega)
      have HC := Lib.hid hcut
      clear hcut htr hE'
      go_wp2_with (go_at_call 24; refine h24.mono ?_; clear h24; rintro e w5 ⟨A5, n5, c5, rfl, hn5, hb5, hB5⟩; by_cases hle : n5 ≤ k)
      · go_roundw
        case rel => exact ⟨i + 1, i + 1, n5, rfl, rfl, rfl, by omega, by have h := CutAt.yes (es := ys.map (·.E)) (k := k) (i := i) (by rw [hn5.out]; exact hle); rwa [hn5.out] at h, below_then hBr hB5⟩
        case measure => simp [intOf]; omega
      · go_roundw
        case rel => exact ⟨i + 1, cnt, e, rfl, rfl, rfl, by omega, HC.out.no (by rw [hn5.out]; exact hle), below_then hBr hB5⟩
        case measure => simp [intOf]; omega
    · obtain rfl : i = m := by omega
      have hle := hcut.le
      have hek := hcut.ek
      have hBw := below_then hB hBr
      by_cases h4 : e + 4 ≤ k
      · have h4i : ¬ ((k : Int) - e < 4) := by omega
        obtain ⟨A7, hrun7, htr7⟩ := cut_hE A1 i c1 cnt cnt rfl hle hE2.le
        have hkl : k < (logB (ys.map (·.E))).length := by rw [hn3.out]; exact hkn
        have hold : (logB (ys.map (·.E))).getD k 0 = (logB (ys.map (·.E)))[k] := by rw [List.getD_eq_getElem?_getD, List.getElem?_eq_getElem hkl]; rfl
        have hsc := scan_corrupt (ves_of hve) hkl (by rw [Hlen.out]; exact hcut) h4 ((logB (ys.map (·.E)))[k] ^^^ u) (by rw [hold]; exact xor_ne HU.out)
        have hE7 := htr7 _ _ (hE2.below hBr)
        have hbr := hb3.below hBr
        have htk : ((ys.map (·.E)).take cnt).length = cnt := by rw [List.length_take, Hlen.out]; omega
        have hB0 := below_al wr (.cells #[] 5)
        have hoE := own_empty wr 5 1
        have hxu := xor_u8 (logB (ys.map (·.E)))[k] u
        generalize hxs : (logB (ys.map (·.E))) = ls at *
        have hls := Lib.hid hxs
        generalize hx : ls[k] = x at *
        have HX := Lib.hid hx
        have HSC := Lib.hid hsc
        have HTK := Lib.hid htk
        have HBW := Lib.hid hBw
        have HE7 := Lib.hid hE7
        have HBR := Lib.hid hbr
        have hrd := hbr.rd
        clear hcut htr7 hxs hx hold hsc htk hBw hE7 hbr h4 hb3 hE2 hn38
        go_wp2_with (at_builtin; refine wpList_of_append rfl _ _ 22 rfl rfl rfl (run_own wr _ 22 22 5 (.int .u8 0) 1 1 Tryd.underlying22 info5 rfl (by decide) (by decide) _ _ _ hoE hB0 _ _ _ (bys ls) (by rw [bys_length, hn3.out, Nat.mul_one]) (hrd.below hB0) (bys_one _) (by omega)) ?_)
        intro v1 w5 hown1 hB1
        have hown1 : w5.ownsRow wr.heap.size 5 1 v1 n3 (bys ls) := by simpa using hown1
        obtain ⟨A6, c6, rfl, hle6, hmx6⟩ := own_shape hown1
        have hb6 := Bs.own hown1
        obtain ⟨g6, o6, rfl, hc6⟩ := hb6.at_ (by omega)
        have hck := hc6 k hkl
        rw [HX.out] at hck
        obtain ⟨hfz, hlt6, -⟩ := own_free (k := o6 + k) hown1
        have hb7 := hb6.set k hkn (x ^^^ u)
        have hB7 : Below wr.heap.size wr (w5.setCell ⟨g6, o6 + k, none⟩ (.int .u8 ((x ^^^ u).toNat : Int))) := hB1.setCell (p := ⟨g6, o6 + k, none⟩) hlt6 _
        have hki : (k : Int) < n3 := by omega
        have H7 := Lib.hid hb7
        clear hown1 hb6 hc6 hB1 hb7 hrd hoE hB0
        go_wp2_with fail
        have hg := (hG.kept HBW.out).kept hB7
        have h16 := scan_at (some ⟨g6, o6, none⟩) n3 c6 _ _ H7.out (by omega) hg _ _ _ cnt e 270 HSC.out rfl rfl HTK.out
        refine h16.mono ?_
        clear h16 hg
        rintro e' w8 ⟨A8, c8, ys8, rfl, hy8, hE8, -, hB8⟩
        have hBa := hB7.trans (hB8.mono (by have := hB7.size; simpa using this))
        have h19 := same19 A8 A7 cnt cnt c8 c1 ys8 (ys.take cnt) w8 hE8 (HE7.out.below hBa) (by omega) true (by simp [hy8.out, map_take])
        clear hB8
        go_wp2_with (go_at_call 19; refine h19.mono ?_; clear h19; rintro e w9 ⟨rfl, hB9⟩)
        go_ret
        exact ⟨rfl, below_then (below_then HBW.out hBa) hB9⟩
      · have h4i : ((k : Int) - e < 4) := by omega
        clear hcut
        go_wp2_with fail
        go_ret
        exact ⟨rfl, hBw⟩
end Go.Proofs.YtcohgkiloaapcaaDoor

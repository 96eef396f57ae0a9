/- Contracts: getWord. -/
import Derived.Test.YtcohgkiloaapcaaDoorC5
import Derived.Test.YtcohgkiloaapcaaDoorM2
namespace Go.Proofs.YtcohgkiloaapcaaDoor
open Go.RowKit

/-- Four bytes read as a number, the least first. -/
def w4 (l : List UInt8) : Nat := (l.getD 0 0).toNat + 256 * (l.getD 1 0).toNat + 65536 * (l.getD 2 0).toNat + 16777216 * (l.getD 3 0).toNat

theorem w4_bits (a b c d : Nat) (ha : a < 256) (hb : b < 256) (hc : c < 256) (hd : d < 256) :
    bits .or .u32 (bits .or .u32 (bits .or .u32 ((a : Int) % 4294967296) ((b : Int) % 4294967296 * 256 % 4294967296)) ((c : Int) % 4294967296 * 65536 % 4294967296)) ((d : Int) % 4294967296 * 16777216 % 4294967296) = ((a + 256 * b + 65536 * c + 16777216 * d : Nat) : Int) := by
  rw [show ((a : Int) % 4294967296) = ((a : Nat) : Int) by omega, show ((b : Int) % 4294967296 * 256 % 4294967296) = ((b * 2 ^ 8 : Nat) : Int) by omega,
    show ((c : Int) % 4294967296 * 65536 % 4294967296) = ((c * 2 ^ 16 : Nat) : Int) by omega, show ((d : Int) % 4294967296 * 16777216 % 4294967296) = ((d * 2 ^ 24 : Nat) : Int) by omega,
    or32 _ _ (by omega) (by omega), or_add _ _ 8 (by omega), or32 _ _ (by omega) (by omega), or_add _ _ 16 (by omega), or32 _ _ (by omega) (by omega), or_add _ _ 24 (by omega)]
  congr 1
  omega

theorem w4_get (l : List UInt8) (h : 4 ≤ l.length) : w4 l = l[0].toNat + 256 * l[1].toNat + 65536 * l[2].toNat + 16777216 * l[3].toNat := by
  simp [w4, List.getD_eq_getElem?_getD, show 0 < l.length by omega, show 1 < l.length by omega, show 2 < l.length by omega, show 3 < l.length by omega]
theorem w4_lt (l : List UInt8) : w4 l < 4294967296 := by
  unfold w4
  have h0 := (l.getD 0 0).toNat_lt
  have h1 := (l.getD 1 0).toNat_lt
  have h2 := (l.getD 2 0).toNat_lt
  have h3 := (l.getD 3 0).toNat_lt
  omega

theorem getWord (A : Option Addr) (n c : Nat) (xs : List UInt8) (w : World) (hb : Bs w A n c xs) (hn : 4 ≤ n) :
    Calls Tryd.prog 55 #[.slice A n c] w fun e w' => e = .returned (.int .u32 (w4 xs : Nat)) ∧ Below w.heap.size w w' := by
  have hlen := hb.len
  obtain ⟨b, o, rfl, hc⟩ := hb.at_ (by omega)
  have h0 := hc 0 (by omega)
  have h1 := hc 1 (by omega)
  have h2 := hc 2 (by omega)
  have h3 := hc 3 (by omega)
  rw [Nat.add_zero] at h0
  have hn4 : (4 : Int) ≤ n := by omega
  clear hc hb
  go_enter Tryd.func55, Tryd.ntmps55
  go_wp2_with fail
  go_quiet (fail)
  go_wp2_with fail
  go_ret
  refine ⟨ret_int ?_, below_drewN w nq⟩
  rw [w4_get _ (by omega)]
  exact w4_bits _ _ _ _ (UInt8.toNat_lt _) (UInt8.toNat_lt _) (UInt8.toNat_lt _) (UInt8.toNat_lt _)

/-! ### The decoder: its block D -/
def DecB (a : Option Addr) (n c p : Nat) : Obj := .cells #[.slice a n c, .int .i64 p] 124
/-- Only block D has turned. -/
abbrev OnlyD (D : Nat) (w w' : World) : Prop := w.grownBy w' (some D)

theorem grown_trans {w w1 w2 : World} {r : Option Nat} (h : w.grownBy w1 r) (k : w1.grownBy w2 r) : w.grownBy w2 r :=
  ⟨k.os.trans h.os, k.tape.trans h.tape, k.output.trans h.output, Nat.le_trans h.size k.size, fun i hi hne => (k.block i (Nat.lt_of_lt_of_le hi h.size) hne).trans (h.block i hi hne)⟩
theorem grown_of_below {w w1 : World} (h : Below w.heap.size w w1) (r : Option Nat) : w.grownBy w1 r := ⟨h.os, h.tape, h.output, h.size, fun i hi _ => h.block i hi⟩
theorem bs_only {w w' : World} {D : Nat} {A : Option Addr} {n c : Nat} {xs : List UInt8} (h : Bs w A n c xs) (hg : OnlyD D w w') {a0 : Option Addr} {n0 c0 p : Nat} (hd : w.heap[D]? = some (DecB a0 n0 c0 p)) : Bs w' A n c xs := by
  refine ⟨h.len, h.le, h.max, fun hn => ?_⟩
  obtain ⟨b, o, e, hc⟩ := h.rd hn
  refine ⟨b, o, e, fun j u hj => hg.cell (hc j u hj) ?_⟩
  intro hbd
  have hbd : b = D := by simpa using hbd
  subst hbd
  have h1 := hc j u hj
  rw [cell_of_row w b _ _ 124 (0, 0) hd] at h1
  have hu : ∃ x : UInt8, u = by8 x := by
    obtain ⟨hlt, he⟩ := List.getElem?_eq_some_iff.1 hj
    exact ⟨xs[j]'(by rw [bys_length] at hlt; exact hlt), by rw [← he]; simp [bys]⟩
  obtain ⟨x, rfl⟩ := hu
  have : o + j = 0 ∨ o + j = 1 ∨ 2 ≤ o + j := by omega
  rcases this with h2 | h2 | h2
  · rw [h2] at h1; simp [by8] at h1
  · rw [h2] at h1; simp [by8] at h1
  · rw [Array.getElem?_eq_none (by simpa using h2)] at h1; cases h1

/-- What a failure of the decoder throws. -/
def Fail (c : Nat) : Ending := .panicked [{ v := .iface 121 (.agg #[.int .i64 c]), recovered := false }]

theorem fail_ok (a : Value) (c : Nat) (w : World) : Calls Tryd.prog 72 #[a, .int .i64 c] w fun e w' => e = .panicked [{ v := .iface 121 (.agg #[.int .i64 c]), recovered := false }] ∧ w = w' := by
  go_enter Tryd.func72, Tryd.ntmps72
  go_wp2_with fail
  exact ⟨rfl, rfl, rfl⟩

theorem cellD {w : World} {D : Nat} {a : Option Addr} {n c p : Nat} (h : w.heap[D]? = some (DecB a n c p)) : w.cell? ⟨D, 0, none⟩ = some (.slice a n c) ∧ w.cell? ⟨D, 1, none⟩ = some (.int .i64 p) ∧ w.frozen? ⟨D, 1, none⟩ = false := by
  refine ⟨cell_of_row w D 0 _ 124 (0, 0) h, cell_of_row w D 1 _ 124 (0, 0) h, ?_⟩
  simp [World.frozen?, h, DecB]

theorem setD {w : World} {D : Nat} {a : Option Addr} {n c p : Nat} (h : w.heap[D]? = some (DecB a n c p)) (q : Nat) : (w.setCell ⟨D, 1, none⟩ (.int .i64 q)).heap[D]? = some (DecB a n c q) :=
  heap_setCell_same w D 1 _ 124 _ h
theorem onlyD_set (w : World) (D : Nat) (v : Value) : OnlyD D w (w.setCell ⟨D, 1, none⟩ v) :=
  ⟨rfl, rfl, rfl, by simp [World.setCell], fun k _ hne => heap_setCell_other w _ k v (fun e => hne (by rw [e]))⟩

def VInv (w : World) (D : Nat) (a : Option Addr) (n c : Nat) (xs : List UInt8) (p0 : Nat) (t s : Value) (wr : World) : Prop :=
  ∃ i u p : Nat, s = .int .i64 (7 * i : Nat) ∧ t = .int .u64 u ∧ i ≤ 9 ∧ u < 2 ^ (7 * i) ∧ p ≤ n ∧ wr.heap[D]? = some (DecB a n c p) ∧ OnlyD D w wr ∧ vDec 0 0 (xs.drop p0) = vDec i u (xs.drop p)

/-- What the decoder's varint does. -/
def VPost (D : Nat) (a : Option Addr) (n c : Nat) (xs : List UInt8) (w : World) (r : Except Nat (Nat × List UInt8)) (e : Ending) (w' : World) : Prop :=
  match r with
  | .error cd => e = Fail cd ∧ OnlyD D w w'
  | .ok (v, l) => e = .returned (.int .i64 (zz v)) ∧ ∃ q, q ≤ n ∧ xs.drop q = l ∧ w'.heap[D]? = some (DecB a n c q) ∧ OnlyD D w w'

set_option maxRecDepth 20000 in
set_option maxHeartbeats 1000000 in
theorem varint_walk (D : Nat) (a : Option Addr) (n c p0 : Nat) (xs : List UInt8) (w : World) (hd : w.heap[D]? = some (DecB a n c p0)) (hb : Bs w a n c xs) (hp : p0 ≤ n) (hn : n ≤ 1000000000) :
    Calls Tryd.prog 71 #[.pointer (some ⟨D, 0, none⟩)] w (VPost D a n c xs w (vDec 0 0 (xs.drop p0))) := by
  have hlen := Lib.hid hb.len
  go_enter Tryd.func71, Tryd.ntmps71
  go_wp2_with fail
  go_loopw [3, 4] (fun t s wr => VInv w D a n c xs p0 t s wr) (fun _ s _ => 70 - (intOf s).toNat)
  case atStart => exact ⟨0, 0, p0, rfl, rfl, by omega, by simp, hp, hd, ⟨rfl, rfl, rfl, Nat.le_refl _, fun _ _ _ => rfl⟩, rfl⟩
  case round =>
    obtain ⟨i, u, p, rfl, rfl, hi, hu, hp', hdr, hg, hv⟩ := hrel
    have hbr := bs_only hb hg hd
    obtain ⟨hc0, hc1, hf1⟩ := cellD hdr
    have HU := Lib.hid hu
    have HD := Lib.hid hdr
    have HG := Lib.hid hg
    have HV0 := Lib.hid hv
    rw [hv]
    clear hu hv hdr hd hb hg
    by_cases hpn : p = n
    · subst hpn
      have hnil : xs.drop p = [] := List.drop_of_length_le (by rw [hlen.out]; omega)
      rw [hnil]
      clear hnil
      go_wp2_with fail
      go_quiet (fail)
      go_wp2_with (go_at_call 72; go_must (refine (fail_ok _ _ _).mono ?_); rintro e w' ⟨rfl, rfl⟩)
      exact ⟨rfl, rfl, grown_trans HG.out (grown_of_below (below_drewN _ _) _)⟩
    · have hx : p < xs.length := by rw [hlen.out]; omega
      have hdrop : xs.drop p = xs[p] :: xs.drop (p + 1) := List.drop_eq_getElem_cons hx
      obtain ⟨b, o, rfl, hcell⟩ := hbr.at_ (by omega)
      have hcx := hcell p hx
      have hpn1 : (p : Int) < n := by omega
      have hpn2 : ((p : Int) == (n : Int)) = false := by simp; omega
      rw [hdrop]
      have HR0 := Lib.hid (show vDec 0 0 (xs.drop p0) = vDec i u (xs[p] :: xs.drop (p + 1)) by rw [HV0.out, hdrop])
      clear hcell hdrop hbr HV0
      have hxl := xs[p].toNat_lt
      have HVD := Lib.hid (show vDec i u (xs[p] :: xs.drop (p + 1)) = if (i = 9 ∧ xs[p].toNat ≠ 1) ∨ (0 < i ∧ xs[p].toNat = 0) then .error 272
        else if xs[p].toNat < 128 then .ok (u + xs[p].toNat * 2 ^ (7 * i), xs.drop (p + 1)) else vDec (i + 1) (u + (xs[p].toNat - 128) * 2 ^ (7 * i)) (xs.drop (p + 1)) from by rw [vDec])
      generalize vDec i u (xs[p] :: xs.drop (p + 1)) = R at *
      generalize xs[p].toNat = x at *
      have hmask := mask128 x hxl
      by_cases hform : (i = 9 ∧ x ≠ 1) ∨ (0 < i ∧ x = 0)
      · have hR := Lib.hid (show R = .error 272 by rw [HVD.out, if_pos hform])
        by_cases hi9 : i = 9
        · subst hi9
          have hx1 : ((x : Int) == 1) = false := by simp; omega
          have hx2 : ((x : Int) != 1) = true := by simp; omega
          clear hform hxl hmask
          go_wp2_with fail
          go_quiet (fail)
          go_wp2_with fail
          go_quiet (fail)
          go_wp2_with (go_at_call 72; go_must (refine (fail_ok _ _ _).mono ?_); rintro e w' ⟨rfl, rfl⟩)
          rw [hR.out]
          exact ⟨rfl, rfl, grown_trans HG.out (grown_of_below (below_drewN _ _) _)⟩
        · obtain ⟨hi0, rfl⟩ : 0 < i ∧ x = 0 := by omega
          have hi1 : ((7 * (i : Int)) == 63) = false := by simp; omega
          have hi2 : (0 : Int) < 7 * (i : Int) := by omega
          clear hform hxl hmask hi9
          go_wp2_with fail
          go_quiet (fail)
          go_wp2_with fail
          go_quiet (fail)
          go_wp2_with (go_at_call 72; go_must (refine (fail_ok _ _ _).mono ?_); rintro e w' ⟨rfl, rfl⟩)
          rw [hR.out]
          exact ⟨rfl, rfl, grown_trans HG.out (grown_of_below (below_drewN _ _) _)⟩
      · have hmd : ((x % 128 : Nat) : Int) = (x : Int) % 128 := by omega
        have hi63 : i ≤ 8 ∨ (i = 9 ∧ x = 1) := by omega
        have hpow : (x % 128) * 2 ^ (7 * i) < 2 ^ (7 * (i + 1)) := by
          rw [show 7 * (i + 1) = 7 + 7 * i by omega, Nat.pow_add]
          exact Nat.mul_lt_mul_of_pos_right (by omega) (Nat.two_pow_pos _)
        have hsum : u + (x % 128) * 2 ^ (7 * i) < 2 ^ (7 * (i + 1)) := by
          have h1 : 2 ^ (7 * (i + 1)) = 128 * 2 ^ (7 * i) := by rw [show 7 * (i + 1) = 7 + 7 * i by omega, Nat.pow_add]
          have h2 : (x % 128 + 1) * 2 ^ (7 * i) ≤ 128 * 2 ^ (7 * i) := Nat.mul_le_mul_right _ (by omega)
          have h3 := HU.out
          rw [Nat.add_mul] at h2
          omega
        have hbig : (x % 128) * 2 ^ (7 * i) < 18446744073709551616 ∧ u + (x % 128) * 2 ^ (7 * i) < 18446744073709551616 := by
          rcases hi63 with h | ⟨rfl, rfl⟩
          · have : 2 ^ (7 * (i + 1)) ≤ 2 ^ 63 := Nat.pow_le_pow_right (by decide) (by omega)
            omega
          · have := HU.out
            omega
        have hor := or_shift u (x % 128) i HU.out hbig.1 (by omega)
        rw [hmd] at hor
        have HS := Lib.hid hsum
        have HB := Lib.hid hbig.2
        have hi4 : 7 * (i : Int) ≤ 64 := by omega
        clear hsum hbig hpow hi63
        generalize hV : u + (x % 128) * 2 ^ (7 * i) = V at *
        have HV := Lib.hid hV
        clear hV
        by_cases hsm : x < 128
        · have hR := Lib.hid (show R = .ok (V, xs.drop (p + 1)) by rw [HVD.out, if_neg hform, if_pos hsm, ← HV.out, Nat.mod_eq_of_lt hsm])
          have hx128 : ((x : Int) < 128) := by omega
          have tail : ∀ (v : Value) (N : Nat), v = .int .i64 (zz V) → VPost D (some ⟨b, o, none⟩) n c xs w R (.returned v) (((wr.drewN N).setCell ⟨D, 1, none⟩ (.int .i64 ((p : Int) + 1)))) := by
            rintro v N rfl
            rw [hR.out]
            refine ⟨rfl, p + 1, by omega, rfl, ?_, ?_⟩
            · exact setD (w := wr.drewN N) HD.out (p + 1)
            · exact grown_trans (grown_trans HG.out (grown_of_below (below_drewN _ _) _)) (onlyD_set _ _ _)
          have hzz := zz_bits V HB.out
          have HZ := Lib.hid hzz
          clear hzz
          by_cases hi9 : i = 9
          · have hi1 : ((7 * (i : Int)) == 63) = true := by simp; omega
            have hx1 : ((x : Int) != 1) = false := by simp; omega
            have hi2 : (0 : Int) < 7 * (i : Int) := by omega
            have hi3 : ((x : Int) == 0) = false := by simp; omega
            have hxe : (x : Int) == 1 := by simp; omega
            clear hform hxl hi9
            go_wp2_with fail
            go_quiet (fail)
            go_wp2_with fail
            go_quiet (fail)
            go_wp2_with fail
            go_ret
            exact tail _ _ (congrArg _ HZ.out)
          · by_cases hi0 : i = 0
            · have hor0 : bits .or .u64 (u : Int) ((x : Int) % 128) = (V : Nat) := by
                have h1 := HU.out
                have h2 := HV.out
                rw [hi0] at h1 h2
                have h0 : u = 0 := by omega
                subst h0
                have h3 := or64 0 (x % 128) (by decide) (by omega)
                rw [Nat.zero_or, hmd] at h3
                rw [h3, ← h2]
                omega
              have hi1 : ((7 * (i : Int)) == 63) = false := by simp; omega
              have hi2 : ¬ (0 : Int) < 7 * (i : Int) := by omega
              clear hform hxl hi9
              go_wp2_with fail
              go_quiet (fail)
              go_wp2_with fail
              go_quiet (fail)
              go_wp2_with fail
              go_ret
              exact tail _ _ (congrArg _ HZ.out)
            · have hi1 : ((7 * (i : Int)) == 63) = false := by simp; omega
              have hi2 : (0 : Int) < 7 * (i : Int) := by omega
              have hi3 : ((x : Int) == 0) = false := by simp; omega
              clear hform hxl hi9
              go_wp2_with fail
              go_quiet (fail)
              go_wp2_with fail
              go_quiet (fail)
              go_wp2_with fail
              go_ret
              exact tail _ _ (congrArg _ HZ.out)
        · have hR := Lib.hid (show R = vDec (i + 1) V (xs.drop (p + 1)) by rw [HVD.out, if_neg hform, if_neg hsm, ← HV.out, show x % 128 = x - 128 by omega])
          have hx128 : ¬ ((x : Int) < 128) := by omega
          have hi8 : i ≤ 8 := by omega
          have hi1 : ((7 * (i : Int)) == 63) = false := by simp; omega
          have tail : ∀ (N : Nat), VInv w D (some ⟨b, o, none⟩) n c xs p0 (.int .u64 V) (.int .i64 (7 * (i : Int) + 7)) (((wr.drewN N).setCell ⟨D, 1, none⟩ (.int .i64 ((p : Int) + 1)))) := by
            intro N
            refine ⟨i + 1, V, p + 1, by congr 1, rfl, by omega, HS.out, by omega, ?_, ?_, ?_⟩
            · exact setD (w := wr.drewN N) HD.out (p + 1)
            · exact grown_trans (grown_trans HG.out (grown_of_below (below_drewN _ _) _)) (onlyD_set _ _ _)
            · rw [HR0.out, hR.out]
          by_cases hi0 : i = 0
          · have hor0 : bits .or .u64 (u : Int) ((x : Int) % 128) = (V : Nat) := by
              have h1 := HU.out
              have h2 := HV.out
              rw [hi0] at h1 h2
              have h0 : u = 0 := by omega
              subst h0
              have h3 := or64 0 (x % 128) (by decide) (by omega)
              rw [Nat.zero_or, hmd] at h3
              rw [h3, ← h2]
              omega
            have hi2 : ¬ (0 : Int) < 7 * (i : Int) := by omega
            rw [show 7 * (i : Int) + 7 = 7 by omega] at tail
            clear hform hxl
            go_wp2_with fail
            go_quiet (fail)
            go_wp2_with fail
            go_quiet (fail)
            go_wp2_with fail
            go_roundw
            case rel => exact tail _
            case measure => simp [intOf]; omega
          · have hi2 : (0 : Int) < 7 * (i : Int) := by omega
            have hi3 : ((x : Int) == 0) = false := by simp; omega
            clear hform hxl
            go_wp2_with fail
            go_quiet (fail)
            go_wp2_with fail
            go_quiet (fail)
            go_wp2_with fail
            go_roundw
            case rel => exact tail _
            case measure => simp [intOf]; omega
end Go.Proofs.YtcohgkiloaapcaaDoor

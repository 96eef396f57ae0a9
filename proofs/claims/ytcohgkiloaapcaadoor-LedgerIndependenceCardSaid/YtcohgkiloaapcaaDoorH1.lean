/- Contracts: the reference's Checksum. -/
import Derived.Test.YtcohgkiloaapcaaDoorH0
namespace Go.Proofs.YtcohgkiloaapcaaDoor
open Go.RowKit

theorem step_odd (c : Nat) (hc : c < 4294967296) (h : c % 2 = 1) : bits .xor .u32 ((c : Int) / 2) 3988292384 = (crcStep c : Nat) := by
  have := xor32 (c / 2) 3988292384 (by omega) (by decide)
  rw [show ((c : Int) / 2) = ((c / 2 : Nat) : Int) by omega, show (3988292384 : Int) = ((3988292384 : Nat) : Int) from rfl, this, crcStep, h]
theorem step_even (c : Nat) (h : c % 2 = 0) : (c : Int) / 2 = (crcStep c : Nat) := by
  rw [crcStep, h]
  simp

set_option maxRecDepth 20000 in
set_option maxHeartbeats 1000000 in
theorem refChecksum (A : Option Addr) (n c : Nat) (xs : List UInt8) (w : World) (hb : Bs w A n c xs) (hn : n ≤ 1000000000) (z : Nat) (hz : z = crc xs) :
    Calls Tryd.prog 40 #[.slice A n c] w fun e w' => e = .returned (.int .u32 (z : Nat)) ∧ w = w' := by
  have hZ := Lib.hid hz
  have hlen := Lib.hid hb.len
  clear hz
  go_enter Tryd.func40, Tryd.ntmps40
  go_wp2_with fail
  go_loopw [3, 4] (fun t s wr => ∃ i : Nat, s = .int .i64 i ∧ i ≤ n ∧ t = .int .u32 (crcAll 4294967295 (xs.take i) : Nat) ∧ wr = w) (fun _ s _ => n - (intOf s).toNat)
  case atStart => exact ⟨0, rfl, by omega, by simp [crcAll], rfl⟩
  case round =>
    obtain ⟨i, rfl, hi, rfl, rfl⟩ := hrel
    have hlt32 : crcAll 4294967295 (xs.take i) < 4294967296 := crcAll_lt _ (by decide)
    by_cases hlt : i < n
    · have hx : i < xs.length := by rw [hlen.out]; exact hlt
      obtain ⟨b, o, rfl, hc⟩ := hb.at_ (by omega)
      have hcx := hc i hx
      have hti : (i : Int) < n := by omega
      have hxl := xs[i].toNat_lt
      have HS := Lib.hid (show crcAll 4294967295 (xs.take (i + 1)) = crcUp (crcAll 4294967295 (xs.take i)) xs[i].toNat by rw [List.take_succ_eq_append_getElem hx, crcAll_snoc])
      generalize xs[i].toNat = x at *
      generalize crcAll 4294967295 (xs.take i) = cc at *
      have hxor : bits .xor .u32 (cc : Int) (x : Int) = ((cc ^^^ x : Nat) : Int) := xor32 cc x hlt32 (by omega)
      have hcx32 : cc ^^^ x < 4294967296 := Nat.xor_lt_two_pow (n := 32) hlt32 (by omega)
      clear hc hb
      go_wp2_with fail
      go_loopw [3, 5] (fun t s wv => ∃ j : Nat, s = .int .i64 j ∧ j ≤ 8 ∧ t = .int .u32 (crcN j (cc ^^^ x) : Nat) ∧ wv = wr) (fun _ s _ => 8 - (intOf s).toNat)
      case atStart => exact ⟨0, rfl, by omega, rfl, rfl⟩
      case round =>
        obtain ⟨j, rfl, hj, rfl, rfl⟩ := hrel
        by_cases hj8 : j < 8
        · have htj : (j : Int) < 8 := by omega
          have hv32 : crcN j (cc ^^^ x) < 4294967296 := crcN_lt hcx32 j
          have HN := Lib.hid (show crcN (j + 1) (cc ^^^ x) = crcStep (crcN j (cc ^^^ x)) from rfl)
          generalize crcN j (cc ^^^ x) = v at *
          have hand := and32 v 1 hv32 (by decide)
          rw [Nat.and_one_is_mod] at hand
          have hpar : v % 2 = 0 ∨ v % 2 = 1 := by omega
          rcases hpar with hp | hp
          · rw [hp] at hand
            have hand0 : bits .and .u32 (v : Int) 1 = 0 := hand
            have hst := step_even v hp
            clear hand hxor
            go_wp2_with fail
            go_roundw
            case rel => exact ⟨j + 1, rfl, by omega, by rw [HN.out, ← hst], trivial⟩
            case measure => simp [intOf]; omega
          · rw [hp] at hand
            have hand1 : bits .and .u32 (v : Int) 1 = 1 := hand
            have hst := Lib.hid (step_odd v hv32 hp)
            clear hand hxor
            go_wp2_with fail
            go_roundw
            case rel => exact ⟨j + 1, rfl, by omega, by rw [HN.out, ← hst.out], trivial⟩
            case measure => simp [intOf]; omega
        · obtain rfl : j = 8 := by omega
          have h8 := crcN8 cc x hxl
          clear hxor
          go_wp2_with fail
          go_roundw
          case rel => exact ⟨i + 1, rfl, by omega, by rw [HS.out, h8], trivial⟩
          case measure => simp [intOf]; omega
    · obtain rfl : i = n := by omega
      have htk : xs.take i = xs := List.take_of_length_le (by rw [hlen.out]; omega)
      rw [htk] at hlt32
      rw [htk]
      have hz : z = 4294967295 - crcAll 4294967295 xs := hZ.out
      generalize crcAll 4294967295 xs = q at *
      have hx : bits .xor .u32 (q : Int) 4294967295 = (z : Nat) := by
        have := xor32 q 4294967295 hlt32 (by decide)
        rw [Nat.xor_comm, ones_xor q hlt32, ← hz] at this
        exact this
      clear hb hz htk
      go_wp2_with fail
      go_ret
      exact ⟨rfl, rfl⟩
end Go.Proofs.YtcohgkiloaapcaaDoor

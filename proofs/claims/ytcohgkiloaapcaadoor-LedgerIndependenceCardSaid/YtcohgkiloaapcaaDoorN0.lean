/- Plain words on Go's bits of unsigned numbers. No program stands in it. -/
import Derived.WalkKit
namespace Go.Proofs.YtcohgkiloaapcaaDoor
open Go Go.RowKit

theorem wrap_u {k : IntKind} (hk : k.signed = false) (n : Nat) (h : n < 2 ^ k.bits) : k.wrap (n : Int) = n := by
  have : ((n : Int) % 2 ^ k.bits) = n := Int.emod_eq_of_lt (Int.natCast_nonneg _) (by exact_mod_cast h)
  simp [IntKind.wrap, hk, this]

theorem bits_xor {k : IntKind} (hk : k.signed = false) (a b : Nat) (ha : a < 2 ^ k.bits) (hb : b < 2 ^ k.bits) : bits .xor k (a : Int) (b : Int) = ((a ^^^ b : Nat) : Int) := by
  simp only [bits, BitVec.ofInt_natCast, BitVec.toNat_xor, BitVec.toNat_ofNat, Nat.mod_eq_of_lt ha, Nat.mod_eq_of_lt hb]
  exact wrap_u hk _ (Nat.xor_lt_two_pow ha hb)
theorem bits_and {k : IntKind} (hk : k.signed = false) (a b : Nat) (ha : a < 2 ^ k.bits) (hb : b < 2 ^ k.bits) : bits .and k (a : Int) (b : Int) = ((a &&& b : Nat) : Int) := by
  simp only [bits, BitVec.ofInt_natCast, BitVec.toNat_and, BitVec.toNat_ofNat, Nat.mod_eq_of_lt ha, Nat.mod_eq_of_lt hb]
  exact wrap_u hk _ (Nat.and_lt_two_pow _ hb)
theorem bits_or {k : IntKind} (hk : k.signed = false) (a b : Nat) (ha : a < 2 ^ k.bits) (hb : b < 2 ^ k.bits) : bits .or k (a : Int) (b : Int) = ((a ||| b : Nat) : Int) := by
  simp only [bits, BitVec.ofInt_natCast, BitVec.toNat_or, BitVec.toNat_ofNat, Nat.mod_eq_of_lt ha, Nat.mod_eq_of_lt hb]
  exact wrap_u hk _ (Nat.or_lt_two_pow ha hb)

theorem xor8 (a b : Nat) (ha : a < 256) (hb : b < 256) : bits .xor .u8 (a : Int) (b : Int) = ((a ^^^ b : Nat) : Int) := bits_xor rfl a b ha hb
theorem xor32 (a b : Nat) (ha : a < 4294967296) (hb : b < 4294967296) : bits .xor .u32 (a : Int) (b : Int) = ((a ^^^ b : Nat) : Int) := bits_xor rfl a b ha hb
theorem xor64 (a b : Nat) (ha : a < 18446744073709551616) (hb : b < 18446744073709551616) : bits .xor .u64 (a : Int) (b : Int) = ((a ^^^ b : Nat) : Int) := bits_xor rfl a b ha hb
theorem or8 (a b : Nat) (ha : a < 256) (hb : b < 256) : bits .or .u8 (a : Int) (b : Int) = ((a ||| b : Nat) : Int) := bits_or rfl a b ha hb
theorem or32 (a b : Nat) (ha : a < 4294967296) (hb : b < 4294967296) : bits .or .u32 (a : Int) (b : Int) = ((a ||| b : Nat) : Int) := bits_or rfl a b ha hb
theorem or64 (a b : Nat) (ha : a < 18446744073709551616) (hb : b < 18446744073709551616) : bits .or .u64 (a : Int) (b : Int) = ((a ||| b : Nat) : Int) := bits_or rfl a b ha hb
theorem and8 (a b : Nat) (ha : a < 256) (hb : b < 256) : bits .and .u8 (a : Int) (b : Int) = ((a &&& b : Nat) : Int) := bits_and rfl a b ha hb
theorem and32 (a b : Nat) (ha : a < 4294967296) (hb : b < 4294967296) : bits .and .u32 (a : Int) (b : Int) = ((a &&& b : Nat) : Int) := bits_and rfl a b ha hb
theorem and64 (a b : Nat) (ha : a < 18446744073709551616) (hb : b < 18446744073709551616) : bits .and .u64 (a : Int) (b : Int) = ((a &&& b : Nat) : Int) := bits_and rfl a b ha hb

theorem or128 (a : Nat) (ha : a < 256) : a ||| 128 = a % 128 + 128 := by
  have h : ∀ x : Fin 256, x.val ||| 128 = x.val % 128 + 128 := by decide +kernel
  exact h ⟨a, ha⟩

/-- A byte with its highest bit set. -/
theorem or8_128 (u : Nat) : bits .or .u8 ((u : Int) % 256) 128 = ((u % 128 + 128 : Nat) : Int) := by
  have h : u % 256 < 256 := Nat.mod_lt _ (by omega)
  have := or8 (u % 256) 128 h (by omega)
  rw [or128 _ h] at this
  rw [show ((u : Int) % 256) = ((u % 256 : Nat) : Int) by simp, show (128 : Int) = ((128 : Nat) : Int) from rfl, this]
  congr 1
  omega
theorem mask128 (x : Nat) (hx : x < 256) : bits .andNot .u8 (x : Int) 128 = ((x % 128 : Nat) : Int) := by
  have h : ∀ y : Fin 256, bits .andNot .u8 (y.val : Int) 128 = ((y.val % 128 : Nat) : Int) := by decide +kernel
  exact h ⟨x, hx⟩
theorem or_add (a b k : Nat) (h : a < 2 ^ k) : a ||| (b * 2 ^ k) = a + b * 2 ^ k := by
  have := Nat.two_pow_add_eq_or_of_lt h b
  rw [Nat.or_comm, Nat.mul_comm b, ← this, Nat.add_comm]
theorem xor_neg1 (n : Nat) (h : n < 9223372036854775808) : bits .xor .i64 (n : Int) (-1) = -(n : Int) - 1 := by
  have h1 : (BitVec.ofInt 64 (n : Int) ^^^ BitVec.ofInt 64 (-1)).toNat = 18446744073709551615 - n := by
    have h2 : BitVec.ofInt 64 (-1) = BitVec.allOnes 64 := by decide
    have h3 := BitVec.toNat_not (x := BitVec.ofNat 64 n)
    rw [BitVec.not_def, BitVec.xor_comm] at h3
    rw [h2, BitVec.ofInt_natCast, h3, BitVec.toNat_ofNat, Nat.mod_eq_of_lt (by omega)]
  show IntKind.i64.wrap ((BitVec.ofInt 64 (n : Int) ^^^ BitVec.ofInt 64 (-1)).toNat : Int) = _
  rw [h1, IntKind.wrap_i64]
  omega
theorem xor_zero_i64 (n : Nat) (h : n < 9223372036854775808) : bits .xor .i64 (n : Int) 0 = (n : Int) := by
  show IntKind.i64.wrap ((BitVec.ofInt 64 (n : Int) ^^^ BitVec.ofInt 64 0).toNat : Int) = _
  have h2 : BitVec.ofInt 64 0 = 0#64 := by decide
  rw [h2, BitVec.xor_zero, BitVec.ofInt_natCast, BitVec.toNat_ofNat, Nat.mod_eq_of_lt (by omega), IntKind.wrap_i64]
  omega
/-- The zigzag's way back, as the walk has it. -/
theorem zz_bits (v : Nat) (h : v < 18446744073709551616) : bits .xor .i64 (wrap64 ((v : Int) / 2)) (wrap64 (-wrap64 (bits .and .u64 (v : Int) 1))) = if v % 2 = 0 then ((v / 2 : Nat) : Int) else -((v / 2 : Nat) : Int) - 1 := by
  have h1 : bits .and .u64 (v : Int) 1 = ((v % 2 : Nat) : Int) := by
    have := and64 v 1 h (by decide)
    rw [Nat.and_one_is_mod] at this
    exact this
  have h2 : wrap64 ((v : Int) / 2) = ((v / 2 : Nat) : Int) := by unfold wrap64; omega
  rw [h1, h2]
  split
  · rename_i h0
    rw [h0, show wrap64 (-wrap64 ((0 : Nat) : Int)) = 0 from by unfold wrap64; omega]
    exact xor_zero_i64 _ (by omega)
  · have h0 : v % 2 = 1 := by omega
    rw [h0, show wrap64 (-wrap64 ((1 : Nat) : Int)) = -1 from by unfold wrap64; omega]
    exact xor_neg1 _ (by omega)
theorem or_shift (u y i : Nat) (hu : u < 2 ^ (7 * i)) (hy : y * 2 ^ (7 * i) < 18446744073709551616) (hi : 7 * i ≤ 64) : bits .or .u64 (u : Int) (IntKind.u64.wrap ((y : Int) * 2 ^ (7 * i))) = ((u + y * 2 ^ (7 * i) : Nat) : Int) := by
  have h1 : IntKind.u64.wrap ((y : Int) * 2 ^ (7 * i)) = ((y * 2 ^ (7 * i) : Nat) : Int) := by
    have : ((y : Int) * 2 ^ (7 * i)) = ((y * 2 ^ (7 * i) : Nat) : Int) := by push_cast; rfl
    rw [this]
    exact wrap_u rfl _ hy
  have hp : 2 ^ (7 * i) ≤ 2 ^ 64 := Nat.pow_le_pow_right (by decide) hi
  rw [h1, or64 _ _ (by omega) hy, or_add _ _ _ hu]
end Go.Proofs.YtcohgkiloaapcaaDoor

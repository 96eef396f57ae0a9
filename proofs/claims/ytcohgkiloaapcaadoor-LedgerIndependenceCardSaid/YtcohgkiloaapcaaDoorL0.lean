/- Plain laws: the checksum sees a change of one byte. No program stands in it. -/
import Derived.Test.YtcohgkiloaapcaaDoorM1
namespace Go.Proofs.YtcohgkiloaapcaaDoor

/-- The index of the table's entry with a given highest byte. -/
def crcInv : List Nat := [0, 65, 195, 130, 134, 199, 69, 4, 77, 12, 142, 207, 203, 138, 8, 73, 154, 219, 89, 24, 28, 93, 223, 158, 215, 150, 20, 85, 81, 16, 146, 211, 117, 52, 182, 247, 243, 178, 48, 113, 56, 121, 251, 186, 190, 255, 125, 60, 239, 174, 44, 109, 105, 40, 170, 235, 162, 227, 97, 32, 36, 101, 231, 166, 234, 171, 41, 104, 108, 45, 175, 238, 167, 230, 100, 37, 33, 96, 226, 163, 112, 49, 179, 242, 246, 183, 53, 116, 61, 124, 254, 191, 187, 250, 120, 57, 159, 222, 92, 29, 25, 88, 218, 155, 210, 147, 17, 80, 84, 21, 151, 214, 5, 68, 198, 135, 131, 194, 64, 1, 72, 9, 139, 202, 206, 143, 13, 76, 149, 212, 86, 23, 19, 82, 208, 145, 216, 153, 27, 90, 94, 31, 157, 220, 15, 78, 204, 141, 137, 200, 74, 11, 66, 3, 129, 192, 196, 133, 7, 70, 224, 161, 35, 98, 102, 39, 165, 228, 173, 236, 110, 47, 43, 106, 232, 169, 122, 59, 185, 248, 252, 189, 63, 126, 55, 118, 244, 181, 177, 240, 114, 51, 127, 62, 188, 253, 249, 184, 58, 123, 50, 115, 241, 176, 180, 245, 119, 54, 229, 164, 38, 103, 99, 34, 160, 225, 168, 233, 107, 42, 46, 111, 237, 172, 10, 75, 201, 136, 140, 205, 79, 14, 71, 6, 132, 197, 193, 128, 2, 67, 144, 209, 83, 18, 22, 87, 213, 148, 221, 156, 30, 95, 91, 26, 152, 217]
theorem crcInv_ok (i : Nat) (h : i < 256) : crcInv.getD (crcT i / 16777216) 0 = i := by
  have k : ∀ x : Fin 256, crcInv.getD (crcT x.val / 16777216) 0 = x.val := by decide +kernel
  exact k ⟨i, h⟩
theorem crcT_top {i j : Nat} (hi : i < 256) (hj : j < 256) (h : crcT i / 16777216 = crcT j / 16777216) : i = j := by
  have a := crcInv_ok i hi
  have b := crcInv_ok j hj
  rw [h, b] at a
  exact a.symm
theorem xor_cancel {a b c : Nat} (h : a ^^^ b = a ^^^ c) : b = c := by
  have h1 : a ^^^ (a ^^^ b) = a ^^^ (a ^^^ c) := by rw [h]
  rwa [← Nat.xor_assoc, ← Nat.xor_assoc, Nat.xor_self, Nat.zero_xor, Nat.zero_xor] at h1
theorem crcUp_byte {c x y : Nat} (hx : x < 256) (hy : y < 256) (h : crcUp c x = crcUp c y) : x = y := by
  unfold crcUp at h
  have h1 := xor_cancel h
  have h2 := crcT_top (xor256 (by omega) hx) (xor256 (by omega) hy) (congrArg (· / 16777216) h1)
  exact xor_cancel h2
theorem top_xor (a b : Nat) (h : a < 16777216) : (a ^^^ b) / 16777216 = b / 16777216 := by
  have e : (16777216 : Nat) = 2 ^ 24 := by decide
  rw [e, ← Nat.shiftRight_eq_div_pow, ← Nat.shiftRight_eq_div_pow, Nat.shiftRight_xor_distrib]
  rw [Nat.shiftRight_eq_div_pow a, Nat.div_eq_of_lt (by omega), Nat.zero_xor]
theorem crcUp_state {c d x : Nat} (hc : c < 4294967296) (hd : d < 4294967296) (hx : x < 256) (h : crcUp c x = crcUp d x) : c = d := by
  unfold crcUp at h
  have h1 : (c / 256 ^^^ crcT (c % 256 ^^^ x)) / 16777216 = (d / 256 ^^^ crcT (d % 256 ^^^ x)) / 16777216 := congrArg (· / 16777216) h
  rw [top_xor _ _ (by omega), top_xor _ _ (by omega)] at h1
  have h2 := crcT_top (xor256 (by omega) hx) (xor256 (by omega) hx) h1
  rw [h2, Nat.xor_comm, Nat.xor_comm (d / 256)] at h
  have h3 := xor_cancel h
  rw [Nat.xor_comm, Nat.xor_comm (d % 256)] at h2
  have h4 := xor_cancel h2
  omega
theorem crcAll_state : ∀ (l : List UInt8) {c d : Nat}, c < 4294967296 → d < 4294967296 → crcAll c l = crcAll d l → c = d
  | [], _, _, _, _, h => h
  | x :: l, _, _, hc, hd, h => crcUp_state hc hd x.toNat_lt (crcAll_state l (crcUp_lt hc x.toNat_lt) (crcUp_lt hd x.toNat_lt) h)
theorem crc_one {p s : List UInt8} {a b : UInt8} (h : crc (p ++ a :: s) = crc (p ++ b :: s)) : a = b := by
  have e : ∀ x : UInt8, crcAll 4294967295 (p ++ x :: s) = crcAll (crcUp (crcAll 4294967295 p) x.toNat) s := fun x => by simp [crcAll]
  unfold crc at h
  have h0 : crcAll 4294967295 p < 4294967296 := crcAll_lt p (by decide)
  have ha := crcAll_lt s (crcUp_lt h0 a.toNat_lt)
  have hb := crcAll_lt s (crcUp_lt h0 b.toNat_lt)
  rw [e, e] at h
  have h1 := crcAll_state s (crcUp_lt h0 a.toNat_lt) (crcUp_lt h0 b.toNat_lt) (by omega)
  exact UInt8.toNat_inj.1 (crcUp_byte a.toNat_lt b.toNat_lt h1)
end Go.Proofs.YtcohgkiloaapcaaDoor

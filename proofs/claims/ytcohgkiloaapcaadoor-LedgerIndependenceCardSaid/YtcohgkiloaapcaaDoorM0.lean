/- Plain words on bytes: varints. No program stands in it. -/
namespace Go.Proofs.YtcohgkiloaapcaaDoor

/-- The varint of a natural number. -/
def vEnc (u : Nat) : List UInt8 :=
  if h : u < 128 then [UInt8.ofNat u] else UInt8.ofNat (u % 128 + 128) :: vEnc (u / 128)
termination_by u
decreasing_by omega

theorem vEnc_small {u : Nat} (h : u < 128) : vEnc u = [UInt8.ofNat u] := by rw [vEnc, dif_pos h]
theorem vEnc_big {u : Nat} (h : ¬ u < 128) : vEnc u = UInt8.ofNat (u % 128 + 128) :: vEnc (u / 128) := by rw [vEnc, dif_neg h]

theorem vEnc_len : ∀ (k u : Nat), u < 128 ^ (k + 1) → (vEnc u).length ≤ k + 1 := by
  intro k
  induction k with
  | zero => intro u h; rw [vEnc_small (by simpa using h)]; simp
  | succ k ih =>
    intro u h
    by_cases hu : u < 128
    · rw [vEnc_small hu]; simp
    · rw [vEnc_big hu, List.length_cons]
      have := ih (u / 128) (by rw [Nat.div_lt_iff_lt_mul (by omega)]; rw [Nat.pow_succ] at h; exact h)
      omega
end Go.Proofs.YtcohgkiloaapcaaDoor

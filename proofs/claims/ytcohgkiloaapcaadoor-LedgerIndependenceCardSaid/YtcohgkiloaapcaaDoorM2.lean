/- Plain words on decoding. No program stands in it. -/
namespace Go.Proofs.YtcohgkiloaapcaaDoor

/-- The varint at the begin of a list: its number's code and what is left, or the error's code. -/
def vDec : Nat → Nat → List UInt8 → Except Nat (Nat × List UInt8)
  | _, _, [] => .error 271
  | i, u, x :: l => if (i = 9 ∧ x.toNat ≠ 1) ∨ (0 < i ∧ x.toNat = 0) then .error 272
    else if x.toNat < 128 then .ok (u + x.toNat * 2 ^ (7 * i), l)
    else vDec (i + 1) (u + (x.toNat - 128) * 2 ^ (7 * i)) l

/-- The number of a code. -/
def zz (u : Nat) : Int := if u % 2 = 0 then ((u / 2 : Nat) : Int) else -((u / 2 : Nat) : Int) - 1

def nDec (lo hi : Int) (l : List UInt8) : Except Nat (Int × List UInt8) :=
  match vDec 0 0 l with
  | .error c => .error c
  | .ok (u, r) => if zz u < lo ∨ hi < zz u then .error 272 else .ok (zz u, r)

def bDec (lo hi : Int) (l : List UInt8) : Except Nat (List UInt8 × List UInt8) :=
  match nDec lo hi l with
  | .error c => .error c
  | .ok (n, r) => if (r.length : Int) < n then .error 271 else .ok (r.take n.toNat, r.drop n.toNat)

/-- An entry. -/
structure En where
  kind : Int
  key : List UInt8
  body : List UInt8

def eDec (l : List UInt8) : Except Nat (En × List UInt8) :=
  match nDec 1 4 l with
  | .error c => .error c
  | .ok (k, r) => match bDec 1 40 r with
    | .error c => .error c
    | .ok (key, r) => match bDec 0 20000 r with
      | .error c => .error c
      | .ok (body, r) => .ok (⟨k, key, body⟩, r)

theorem vDec_le : ∀ (l : List UInt8) (i u : Nat) (v : Nat) (r : List UInt8), vDec i u l = .ok (v, r) → ∃ p, l = p ++ r ∧ 0 < p.length
  | [], i, u, v, r, h => by simp [vDec] at h
  | x :: l, i, u, v, r, h => by
    rw [vDec] at h
    split at h
    · cases h
    · split at h
      · cases h; exact ⟨[x], rfl, by simp⟩
      · obtain ⟨p, hp, hl⟩ := vDec_le l _ _ _ _ h
        exact ⟨x :: p, by rw [hp]; rfl, by simp⟩

theorem nDec_le {lo hi : Int} {l : List UInt8} {v : Int} {r : List UInt8} (h : nDec lo hi l = .ok (v, r)) : (∃ p, l = p ++ r ∧ 0 < p.length) ∧ lo ≤ v ∧ v ≤ hi := by
  unfold nDec at h
  cases hv : vDec 0 0 l with
  | error c => rw [hv] at h; cases h
  | ok x =>
    obtain ⟨u, r'⟩ := x
    rw [hv] at h
    dsimp only at h
    split at h
    · cases h
    · cases h
      exact ⟨vDec_le l 0 0 u _ hv, by omega, by omega⟩
theorem bDec_le {lo hi : Int} {l : List UInt8} {v : List UInt8} {r : List UInt8} (h : bDec lo hi l = .ok (v, r)) : (∃ p, l = p ++ r) ∧ lo ≤ v.length ∧ (0 ≤ lo → v.length ≤ hi) := by
  unfold bDec at h
  cases hv : nDec lo hi l with
  | error c => rw [hv] at h; cases h
  | ok x =>
    obtain ⟨n, r'⟩ := x
    rw [hv] at h
    dsimp only at h
    split at h
    · cases h
    · cases h
      obtain ⟨⟨p, hp, _⟩, h1, h2⟩ := nDec_le hv
      refine ⟨⟨p ++ r'.take n.toNat, by rw [hp, List.append_assoc, List.take_append_drop]⟩, ?_, fun _ => ?_⟩ <;> (rw [List.length_take]; omega)
end Go.Proofs.YtcohgkiloaapcaaDoor

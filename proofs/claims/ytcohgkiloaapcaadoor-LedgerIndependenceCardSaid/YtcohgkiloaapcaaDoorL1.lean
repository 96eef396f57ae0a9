/- Plain laws: what is encoded decodes to itself, and only what was encoded decodes. No program stands in it. -/
import Derived.Test.YtcohgkiloaapcaaDoorH3
import Derived.Test.YtcohgkiloaapcaaDoorL0
namespace Go.Proofs.YtcohgkiloaapcaaDoor

theorem toNat_ofNat {n : Nat} (h : n < 256) : (UInt8.ofNat n).toNat = n := by simp [Nat.mod_eq_of_lt h]
theorem ofNat_toNat' (x : UInt8) : UInt8.ofNat x.toNat = x := by simp

theorem vDec_vEnc (r : List UInt8) : ∀ (n v i u : Nat), v ≤ n → i ≤ 9 → v < 2 ^ (64 - 7 * i) → (0 < i → 0 < v) → vDec i u (vEnc v ++ r) = .ok (u + v * 2 ^ (7 * i), r) := by
  intro n
  induction n with
  | zero =>
    intro v i u hn hi hv h0
    obtain rfl : v = 0 := by omega
    obtain rfl : i = 0 := by
      rcases Nat.eq_zero_or_pos i with h | h
      · exact h
      · exact absurd (h0 h) (by omega)
    rw [vEnc_small (by omega), List.cons_append, List.nil_append, vDec]
    simp
  | succ n ih =>
    intro v i u hn hi hv h0
    have h9 : i = 9 → v ≤ 1 := by
      rintro rfl
      have : (2 : Nat) ^ (64 - 7 * 9) = 2 := by decide
      omega
    by_cases hs : v < 128
    · rw [vEnc_small hs, List.cons_append, List.nil_append, vDec, toNat_ofNat (by omega)]
      rw [if_neg (by
        rintro (⟨h1, h2⟩ | ⟨h1, h2⟩)
        · have := h9 h1; have := h0 (by omega); omega
        · have := h0 h1; omega), if_pos hs]
    · have hi8 : i ≤ 8 := by
        rcases Nat.lt_or_ge i 9 with h | h
        · omega
        · have := h9 (by omega); omega
      rw [vEnc_big hs, List.cons_append, vDec, toNat_ofNat (by omega), if_neg (by omega), if_neg (by omega)]
      have hp : (2 : Nat) ^ (64 - 7 * i) = 2 ^ (64 - 7 * (i + 1)) * 128 := by
        rw [show 64 - 7 * i = (64 - 7 * (i + 1)) + 7 by omega, Nat.pow_add]
      rw [ih (v / 128) (i + 1) _ (by omega) (by omega) (by rw [hp] at hv; omega) (by omega)]
      have hq : (2 : Nat) ^ (7 * (i + 1)) = 128 * 2 ^ (7 * i) := by
        rw [show 7 * (i + 1) = 7 + 7 * i by omega, Nat.pow_add]
      have e : u + (v % 128 + 128 - 128) * 2 ^ (7 * i) + v / 128 * 2 ^ (7 * (i + 1)) = u + v * 2 ^ (7 * i) := by
        rw [hq, ← Nat.mul_assoc, Nat.add_assoc, ← Nat.add_mul]
        have e2 : v % 128 + 128 - 128 + v / 128 * 128 = v := by omega
        rw [e2]
      rw [e]

theorem vDec_canon : ∀ (l : List UInt8) (i u w : Nat) (r : List UInt8), i ≤ 9 → vDec i u l = .ok (w, r) → ∃ v, w = u + v * 2 ^ (7 * i) ∧ l = vEnc v ++ r ∧ (0 < i → 0 < v) ∧ v < 2 ^ (64 - 7 * i)
  | [], i, u, w, r, hi, h => by simp [vDec] at h
  | x :: l, i, u, w, r, hi, h => by
    rw [vDec] at h
    have hx := x.toNat_lt
    split at h
    · cases h
    · rename_i hno
      have h9 : i = 9 → x.toNat = 1 := fun e => Decidable.byContradiction fun hne => hno (.inl ⟨e, hne⟩)
      have hp0 : 0 < i → 0 < x.toNat := fun e => Decidable.byContradiction fun hne => hno (.inr ⟨e, by omega⟩)
      split at h
      · rename_i hs
        injection h with h
        injection h with h1 h2
        refine ⟨x.toNat, h1.symm, ?_, hp0, ?_⟩
        · rw [vEnc_small hs, ofNat_toNat', h2]; rfl
        · rcases Nat.lt_or_ge i 9 with hlt | hge
          · have : (2 : Nat) ^ 7 ≤ 2 ^ (64 - 7 * i) := Nat.pow_le_pow_right (by decide) (by omega)
            omega
          · obtain rfl : i = 9 := by omega
            have := h9 rfl
            have e : (2 : Nat) ^ (64 - 7 * 9) = 2 := by decide
            omega
      · rename_i hs
        have hi8 : i ≤ 8 := by
          rcases Nat.lt_or_ge i 9 with hlt | hge
          · omega
          · have := h9 (by omega); omega
        obtain ⟨v, hw, hl, hv0, hv⟩ := vDec_canon l _ _ w r (by omega) h
        have hv0 := hv0 (by omega)
        have hp : (2 : Nat) ^ (64 - 7 * i) = 2 ^ (64 - 7 * (i + 1)) * 128 := by
          rw [show 64 - 7 * i = (64 - 7 * (i + 1)) + 7 by omega, Nat.pow_add]
        have hq : (2 : Nat) ^ (7 * (i + 1)) = 128 * 2 ^ (7 * i) := by
          rw [show 7 * (i + 1) = 7 + 7 * i by omega, Nat.pow_add]
        refine ⟨(x.toNat - 128) + 128 * v, ?_, ?_, by omega, by rw [hp]; omega⟩
        · rw [hw, hq, Nat.add_mul, ← Nat.mul_assoc, Nat.mul_comm v 128, Nat.add_assoc]
        · rw [vEnc_big (by omega), show (x.toNat - 128 + 128 * v) % 128 + 128 = x.toNat by omega, show (x.toNat - 128 + 128 * v) / 128 = v by omega, ofNat_toNat', hl]; rfl

theorem zz_even (n : Nat) : zz (2 * n) = n := by
  unfold zz
  rw [if_pos (by omega)]
  omega
theorem zz_inv {u n : Nat} (h : zz u = n) : u = 2 * n := by
  unfold zz at h
  split at h <;> omega

theorem nDec_enc {lo hi : Int} {n : Nat} (r : List UInt8) (h1 : lo ≤ n) (h2 : n ≤ hi) (hn : n < 9223372036854775808) : nDec lo hi (vEnc (2 * n) ++ r) = .ok ((n : Int), r) := by
  unfold nDec
  rw [vDec_vEnc r _ (2 * n) 0 0 (Nat.le_refl _) (by decide) (by simp; omega) (by omega)]
  dsimp only
  simp only [Nat.mul_zero, Nat.pow_zero, Nat.mul_one, Nat.zero_add]
  rw [zz_even, if_neg (by omega)]
theorem nDec_canon {lo hi : Int} {l : List UInt8} {v : Int} {r : List UInt8} (h0 : 0 ≤ lo) (h : nDec lo hi l = .ok (v, r)) : ∃ n : Nat, v = n ∧ l = vEnc (2 * n) ++ r ∧ lo ≤ n ∧ n ≤ hi := by
  have hb := (nDec_le h).2
  unfold nDec at h
  cases hv : vDec 0 0 l with
  | error c => rw [hv] at h; cases h
  | ok x =>
    obtain ⟨u, r'⟩ := x
    rw [hv] at h
    dsimp only at h
    split at h
    · cases h
    · injection h with h
      injection h with h3 h4
      subst h4
      obtain ⟨w, hw, hl, _, _⟩ := vDec_canon l 0 0 u r' (by decide) hv
      simp only [Nat.mul_zero, Nat.pow_zero, Nat.mul_one, Nat.zero_add] at hw
      subst hw
      obtain ⟨n, rfl⟩ := Int.eq_ofNat_of_zero_le (show 0 ≤ v by omega)
      have := zz_inv h3
      exact ⟨n, rfl, by rw [← this]; exact hl, hb.1, hb.2⟩

theorem bDec_enc {lo hi : Int} {xs : List UInt8} (r : List UInt8) (h1 : lo ≤ xs.length) (h2 : xs.length ≤ hi) (hn : xs.length < 9223372036854775808) : bDec lo hi (vEnc (2 * xs.length) ++ xs ++ r) = .ok (xs, r) := by
  unfold bDec
  rw [List.append_assoc, nDec_enc (xs ++ r) h1 h2 hn]
  dsimp only
  rw [if_neg (by simp; omega), Int.toNat_natCast, List.take_left', List.drop_left'] <;> rfl
theorem bDec_canon {lo hi : Int} {l : List UInt8} {v r : List UInt8} (h0 : 0 ≤ lo) (h : bDec lo hi l = .ok (v, r)) : l = vEnc (2 * v.length) ++ v ++ r ∧ lo ≤ v.length ∧ v.length ≤ hi := by
  unfold bDec at h
  cases hv : nDec lo hi l with
  | error c => rw [hv] at h; cases h
  | ok x =>
    obtain ⟨n, r'⟩ := x
    rw [hv] at h
    dsimp only at h
    split at h
    · cases h
    · rename_i hlt
      injection h with h
      injection h with h1 h2
      obtain ⟨m, rfl, hl, h3, h4⟩ := nDec_canon h0 hv
      rw [Int.toNat_natCast] at h1 h2
      have hlen : v.length = m := by rw [← h1, List.length_take]; omega
      refine ⟨?_, by omega, by omega⟩
      rw [hl, hlen, List.append_assoc, ← h1, ← h2, List.take_append_drop]

theorem VE.mk {E : En} (h1 : 1 ≤ E.kind) (h2 : E.kind ≤ 4) (h3 : 1 ≤ E.key.length) (h4 : E.key.length ≤ 40) (h5 : E.body.length ≤ 20000) : VE E := by
  unfold VE vldE
  simp only [decide_eq_true_eq]
  exact ⟨h1, h2, h3, h4, h5⟩
theorem VE.bd {E : En} (h : VE E) : (1 ≤ E.kind ∧ E.kind ≤ 4) ∧ 1 ≤ E.key.length ∧ E.key.length ≤ 40 ∧ E.body.length ≤ 20000 := by
  unfold VE vldE at h
  simp only [decide_eq_true_eq] at h
  exact ⟨⟨h.1, h.2.1⟩, h.2.2.1, h.2.2.2.1, h.2.2.2.2⟩

theorem eDec_enc {E : En} (h : VE E) (r : List UInt8) : eDec (encEn E ++ r) = .ok (E, r) := by
  have hv := h.bd
  obtain ⟨k, key, body⟩ := E
  dsimp only at hv
  obtain ⟨n, rfl⟩ := Int.eq_ofNat_of_zero_le (show 0 ≤ k by omega)
  unfold eDec encEn encE
  dsimp only
  rw [Int.toNat_natCast]
  have e : vEnc (2 * n) ++ vEnc (2 * key.length) ++ key ++ vEnc (2 * body.length) ++ body ++ r = vEnc (2 * n) ++ (vEnc (2 * key.length) ++ key ++ (vEnc (2 * body.length) ++ body ++ r)) := by simp only [List.append_assoc]
  rw [e, nDec_enc _ (by omega) (by omega) (by omega)]
  dsimp only
  rw [bDec_enc _ (by omega) (by omega) (by omega)]
  dsimp only
  rw [bDec_enc _ (by omega) (by omega) (by omega)]

theorem eDec_canon {l : List UInt8} {E : En} {r : List UInt8} (h : eDec l = .ok (E, r)) : l = encEn E ++ r ∧ VE E := by
  unfold eDec at h
  cases h1 : nDec 1 4 l with
  | error c => rw [h1] at h; cases h
  | ok x =>
    obtain ⟨k, r1⟩ := x
    rw [h1] at h
    dsimp only at h
    cases h2 : bDec 1 40 r1 with
    | error c => rw [h2] at h; cases h
    | ok y =>
      obtain ⟨key, r2⟩ := y
      rw [h2] at h
      dsimp only at h
      cases h3 : bDec 0 20000 r2 with
      | error c => rw [h3] at h; cases h
      | ok z =>
        obtain ⟨body, r3⟩ := z
        rw [h3] at h
        dsimp only at h
        injection h with h
        injection h with he hr
        subst he hr
        obtain ⟨n, rfl, e1, b1, b2⟩ := nDec_canon (by decide) h1
        obtain ⟨e2, b3, b4⟩ := bDec_canon (by decide) h2
        obtain ⟨e3, b5, b6⟩ := bDec_canon (by decide) h3
        refine ⟨?_, VE.mk b1 b2 (by dsimp only; omega) (by dsimp only; omega) (by dsimp only; omega)⟩
        unfold encEn encE
        dsimp only
        rw [Int.toNat_natCast, e1, e2, e3]
        simp only [List.append_assoc]

theorem w4_le4 {n : Nat} (r : List UInt8) (h : n < 4294967296) : w4 (le4 n ++ r) = n := by
  unfold w4 le4
  simp only [List.cons_append, List.getD_cons_zero, List.getD_cons_succ]
  rw [toNat_ofNat (by omega), toNat_ofNat (by omega), toNat_ofNat (by omega), toNat_ofNat (by omega)]
  omega
theorem le4_w4 {l : List UInt8} (h : 4 ≤ l.length) : le4 (w4 l) = l.take 4 := by
  rcases l with _ | ⟨a, _ | ⟨b, _ | ⟨c, _ | ⟨d, l⟩⟩⟩⟩
  · simp at h
  · simp at h
  · simp at h
  · simp at h
  · have ha := a.toNat_lt
    have hb := b.toNat_lt
    have hc := c.toNat_lt
    have hd := d.toNat_lt
    unfold w4 le4
    simp only [List.getD_cons_zero, List.getD_cons_succ, List.take_succ_cons, List.take_zero]
    rw [show (a.toNat + 256 * b.toNat + 65536 * c.toNat + 16777216 * d.toNat) % 256 = a.toNat by omega,
      show (a.toNat + 256 * b.toNat + 65536 * c.toNat + 16777216 * d.toNat) / 256 % 256 = b.toNat by omega,
      show (a.toNat + 256 * b.toNat + 65536 * c.toNat + 16777216 * d.toNat) / 65536 % 256 = c.toNat by omega,
      show (a.toNat + 256 * b.toNat + 65536 * c.toNat + 16777216 * d.toNat) / 16777216 % 256 = d.toNat by omega]
    simp only [ofNat_toNat']

theorem encEn_len {E : En} (h : VE E) : (encEn E).length ≤ 21000 := by
  have hv := h.bd
  have h3 := vEnc_len 9 (2 * E.kind.toNat) (by omega)
  have h4 := vEnc_len 9 (2 * E.key.length) (by omega)
  have h5 := vEnc_len 9 (2 * E.body.length) (by omega)
  unfold encEn encE
  simp only [List.length_append]
  omega

theorem recB_length' (e : List UInt8) : (recB e).length = e.length + 8 := by simp [recB, le4]
/-- A record whose checksum may be wrong. -/
theorem fDec_shape (e c r : List UInt8) (he : e.length < 4294967296) (hc : c.length = 4) :
    fDec (le4 e.length ++ e ++ c ++ r) = if crc (le4 e.length ++ e) ≠ w4 c then .error 270 else match eDec e with
      | .error _ => .error 272
      | .ok (E, l) => if l = [] then .ok (E, e.length + 8) else .error 272 := by
  have hw : w4 (le4 e.length ++ e ++ c ++ r) = e.length := by rw [List.append_assoc, List.append_assoc]; exact w4_le4 _ he
  have hl : (le4 e.length ++ e ++ c ++ r).length = e.length + 8 + r.length := by simp only [List.length_append, le4_length, hc]; omega
  have ht : (le4 e.length ++ e ++ c ++ r).take (4 + e.length) = le4 e.length ++ e := by
    rw [List.append_assoc, List.take_left' (by rw [List.length_append, le4_length])]
  have hd : (le4 e.length ++ e ++ c ++ r).drop (4 + e.length) = c ++ r := by
    rw [List.append_assoc, List.drop_left' (by rw [List.length_append, le4_length])]
  have hc4 : w4 (c ++ r) = w4 c := by
    rcases c with _ | ⟨a, _ | ⟨b, _ | ⟨x, _ | ⟨d, c⟩⟩⟩⟩
    · simp at hc
    · simp at hc
    · simp at hc
    · simp at hc
    · unfold w4; rfl
  unfold fDec
  rw [hw, hl, ht, hd, hc4, List.drop_left' (le4_length _), if_neg (by omega), if_neg (by omega)]
  rfl

theorem fDec_rec {E : En} (h : VE E) (r : List UInt8) : fDec (recB (encEn E) ++ r) = .ok (E, (encEn E).length + 8) := by
  have hl := encEn_len h
  have hc := crc_lt (le4 (encEn E).length ++ encEn E)
  have hw : w4 (le4 (crc (le4 (encEn E).length ++ encEn E))) = crc (le4 (encEn E).length ++ encEn E) := by
    have := w4_le4 [] hc
    rwa [List.append_nil] at this
  unfold recB
  rw [fDec_shape _ _ _ (by omega) rfl, hw, if_neg (by simp)]
  have := eDec_enc h []
  rw [List.append_nil] at this
  rw [this]
  simp

theorem fDec_canon {l : List UInt8} {E : En} {m : Nat} (h : fDec l = .ok (E, m)) : l = recB (encEn E) ++ l.drop m ∧ m = (encEn E).length + 8 ∧ VE E := by
  unfold fDec at h
  split at h
  · cases h
  · rename_i h4
    split at h
    · cases h
    · rename_i h8
      split at h
      · cases h
      · rename_i hcrc
        cases he : eDec ((l.take (4 + w4 l)).drop 4) with
        | error c => rw [he] at h; cases h
        | ok x =>
          obtain ⟨E', t⟩ := x
          rw [he] at h
          dsimp only at h
          split at h
          · rename_i ht
            subst ht
            injection h with h
            injection h with h1 h2
            subst h1
            obtain ⟨e1, hv⟩ := eDec_canon he
            rw [List.append_nil] at e1
            have hlen : (encEn E').length = w4 l := by
              rw [← e1, List.length_drop, List.length_take]; omega
            have ht4 : l.take (4 + w4 l) = le4 (encEn E').length ++ encEn E' := by
              rw [hlen, le4_w4 (by omega), ← e1]
              have : (l.take (4 + w4 l)).take 4 = l.take 4 := by rw [List.take_take]; congr 1; omega
              conv => lhs; rw [← List.take_append_drop 4 (l.take (4 + w4 l)), this]
            have hc4 : (l.drop (4 + w4 l)).take 4 = le4 (crc (le4 (encEn E').length ++ encEn E')) := by
              rw [← ht4, show crc (l.take (4 + w4 l)) = w4 (l.drop (4 + w4 l)) from Decidable.byContradiction hcrc, le4_w4 (by rw [List.length_drop]; omega)]
            refine ⟨?_, by omega, hv⟩
            unfold recB
            rw [← hc4, ← ht4]
            have hm : m = 4 + w4 l + 4 := by omega
            have e3 : (l.drop (4 + w4 l)).take 4 ++ l.drop (4 + w4 l + 4) = l.drop (4 + w4 l) := by
              rw [← List.drop_drop (i := 4) (j := 4 + w4 l), List.take_append_drop]
            rw [hm, List.append_assoc, e3, List.take_append_drop]
          · cases h
end Go.Proofs.YtcohgkiloaapcaaDoor

/- Plain laws: what a scan says of a log, of a part of one, of a damaged one. No program stands in it. -/
import Derived.Test.YtcohgkiloaapcaaDoorL1
namespace Go.Proofs.YtcohgkiloaapcaaDoor

theorem sDec_fuel : ∀ (k k' off : Nat) (l : List UInt8), l.length < k → l.length < k' → sDec k off l = sDec k' off l
  | 0, _, _, _, h, _ => by omega
  | _ + 1, 0, _, _, _, h => by omega
  | k + 1, k' + 1, off, l, h, h' => by
    rw [sDec, sDec]
    by_cases hl : l = []
    · rw [if_pos hl, if_pos hl]
    · rw [if_neg hl, if_neg hl]
      cases hf : fDec l with
      | error c => rfl
      | ok x =>
        obtain ⟨E, m⟩ := x
        have hm := fDec_ok hf
        dsimp only
        rw [sDec_fuel k k' (off + m) (l.drop m) (by rw [List.length_drop]; omega) (by rw [List.length_drop]; omega)]
theorem sDec_off : ∀ (k off : Nat) (l : List UInt8), sDec k off l = ((sDec k 0 l).1, off + (sDec k 0 l).2.1, (sDec k 0 l).2.2)
  | 0, off, l => rfl
  | k + 1, off, l => by
    rw [sDec, sDec]
    by_cases hl : l = []
    · rw [if_pos hl, if_pos hl]; rfl
    · rw [if_neg hl, if_neg hl]
      cases hf : fDec l with
      | error c => rfl
      | ok x =>
        obtain ⟨E, m⟩ := x
        dsimp only
        rw [sDec_off k (off + m), sDec_off k (0 + m)]
        simp [Nat.add_assoc]

theorem scan_nil : scan [] = ([], 0, 0) := rfl
theorem scan_err {l : List UInt8} {cd : Nat} (hl : l ≠ []) (h : fDec l = .error cd) : scan l = ([], 0, cd) := by
  unfold scan
  rw [sDec, if_neg hl, h]
theorem scan_yes {l : List UInt8} {E : En} {m : Nat} (h : fDec l = .ok (E, m)) : scan l = (E :: (scan (l.drop m)).1, m + (scan (l.drop m)).2.1, (scan (l.drop m)).2.2) := by
  have hm := fDec_ok h
  have hl : l ≠ [] := by rintro rfl; simp at hm; omega
  have e : sDec l.length (0 + m) (l.drop m) = sDec ((l.drop m).length + 1) (0 + m) (l.drop m) := sDec_fuel _ _ _ _ (by rw [List.length_drop]; omega) (by omega)
  unfold scan
  rw [sDec, if_neg hl, h]
  dsimp only
  rw [e, sDec_off _ (0 + m), Nat.zero_add]

/-- The log of entries. -/
def logB (es : List En) : List UInt8 := es.flatMap fun e => recB (encEn e)
theorem logB_cons (e : En) (es : List En) : logB (e :: es) = recB (encEn e) ++ logB es := by simp [logB]
theorem logB_append (xs ys : List En) : logB (xs ++ ys) = logB xs ++ logB ys := by simp [logB]
theorem logB_one (e : En) : logB [e] = recB (encEn e) := by simp [logB]
def VEs (es : List En) : Prop := ∀ e, e ∈ es → VE e

theorem scan_log : ∀ (es : List En) (r : List UInt8), VEs es → scan (logB es ++ r) = (es ++ (scan r).1, (logB es).length + (scan r).2.1, (scan r).2.2)
  | [], r, _ => by simp [logB]
  | e :: es, r, h => by
    have hv := h e List.mem_cons_self
    have hd : (recB (encEn e) ++ (logB es ++ r)).drop ((encEn e).length + 8) = logB es ++ r := List.drop_left' (recB_length' _)
    have ih := scan_log es r fun x hx => h x (List.mem_cons_of_mem _ hx)
    rw [logB_cons, List.append_assoc, scan_yes (fDec_rec hv _), hd, ih]
    simp only [List.cons_append, List.length_append, recB_length', Nat.add_assoc]

/-- What a scan finds is the log of what it hands back. -/
theorem scan_canon : ∀ (n : Nat) (l : List UInt8), l.length ≤ n → l.take (scan l).2.1 = logB (scan l).1 ∧ VEs (scan l).1 ∧ (logB (scan l).1).length = (scan l).2.1
  | n, l, hn => by
    by_cases hl : l = []
    · subst hl; exact ⟨rfl, fun e he => by simp [scan_nil] at he, rfl⟩
    · cases hf : fDec l with
      | error cd => rw [scan_err hl hf]; exact ⟨rfl, fun e he => by simp at he, rfl⟩
      | ok x =>
        obtain ⟨E, m⟩ := x
        have hm := fDec_ok hf
        obtain ⟨h1, h2, h3⟩ := fDec_canon hf
        cases n with
        | zero => omega
        | succ n =>
          obtain ⟨i1, i2, i3⟩ := scan_canon n (l.drop m) (by rw [List.length_drop]; omega)
          rw [scan_yes hf]
          dsimp only
          refine ⟨?_, fun e he => ?_, ?_⟩
          · rw [logB_cons, ← i1]
            have : (recB (encEn E)).length = m := by rw [recB_length', h2]
            generalize (scan (l.drop m)).2.1 = q at *
            conv => lhs; rw [h1]
            rw [List.take_append, this, List.take_of_length_le (l := recB (encEn E)) (by omega), Nat.add_sub_cancel_left]
          · rcases List.mem_cons.1 he with rfl | he
            · exact h3
            · exact i2 e he
          · rw [logB_cons, List.length_append, recB_length', i3, h2]
theorem scan_le (l : List UInt8) : (scan l).2.1 ≤ l.length := by have := sDec_le (l.length + 1) 0 l; unfold scan; omega
theorem scan_log_only (es : List En) (h : VEs es) : scan (logB es) = (es, (logB es).length, 0) := by
  have := scan_log es [] h
  rw [List.append_nil] at this
  rw [this, scan_nil]
  simp

theorem logB_len {es : List En} (h : VEs es) : (logB es).length ≤ es.length * 21008 := by
  induction es with
  | nil => simp [logB]
  | cons e es ih =>
    have h1 := encEn_len (h e List.mem_cons_self)
    have h2 := ih fun x hx => h x (List.mem_cons_of_mem _ hx)
    rw [logB_cons, List.length_append, recB_length', List.length_cons]
    omega

/-- A record that is cut. -/
theorem fDec_cut {E : En} (h : VE E) (k : Nat) (hk : k < (recB (encEn E)).length) : fDec ((recB (encEn E)).take k) = .error 271 := by
  rw [recB_length'] at hk
  have hl := encEn_len h
  have hlen : ((recB (encEn E)).take k).length = k := by rw [List.length_take, recB_length']; omega
  unfold fDec
  by_cases h4 : k < 4
  · rw [hlen, if_pos h4]
  · have hw : w4 ((recB (encEn E)).take k) = (encEn E).length := by
      have e : (recB (encEn E)).take k = le4 (encEn E).length ++ (encEn E ++ le4 (crc (le4 (encEn E).length ++ encEn E))).take (k - 4) := by
        unfold recB
        rw [List.append_assoc, List.take_append, le4_length, List.take_of_length_le (l := le4 _) (by rw [le4_length]; omega)]
      rw [e]
      exact w4_le4 _ (by omega)
    rw [hlen, hw, if_neg h4, if_pos (by omega)]

/-- A log that is cut within the record behind es. -/
theorem scan_cut (es : List En) (E : En) (r : List UInt8) (h : VEs es) (hE : VE E) (k : Nat) (h1 : (logB es).length ≤ k) (h2 : k < (logB (es ++ [E])).length) :
    scan ((logB (es ++ [E]) ++ r).take k) = (es, (logB es).length, if (logB es).length = k then 0 else 271) := by
  rw [logB_append, logB_one] at h2 ⊢
  rw [List.length_append] at h2
  have e : ((logB es ++ recB (encEn E)) ++ r).take k = logB es ++ (recB (encEn E)).take (k - (logB es).length) := by
    rw [List.append_assoc, List.take_append, List.take_of_length_le h1, List.take_append_of_le_length (by omega)]
  rw [e, scan_log es _ h]
  by_cases hk : (logB es).length = k
  · rw [if_pos hk, hk, Nat.sub_self, List.take_zero, scan_nil]; simp
  · rw [if_neg hk, scan_err _ (fDec_cut hE _ (by omega))]
    · simp
    · intro hnil
      have := congrArg List.length hnil
      rw [List.length_take, List.length_nil] at this
      omega

/-- A change of one byte behind the length of a record. -/
theorem fDec_damaged {E : En} (h : VE E) (r : List UInt8) (d : Nat) (hd : 4 ≤ d) (hk : d < (recB (encEn E)).length) (b : UInt8) (hb : b ≠ (recB (encEn E)).getD d 0) :
    fDec ((recB (encEn E)).set d b ++ r) = .error 270 := by
  have hl := encEn_len h
  have hL := recB_length' (encEn E)
  generalize he : encEn E = e at *
  have hcr := crc_lt (le4 e.length ++ e)
  by_cases hc : d < 4 + e.length
  · -- within the encoding
    have hset : (recB e).set d b = le4 e.length ++ e.set (d - 4) b ++ le4 (crc (le4 e.length ++ e)) := by
      unfold recB
      rw [List.set_append_left _ _ (by rw [List.length_append, le4_length]; omega), List.set_append_right _ _ (by rw [le4_length]; omega), le4_length]
    have hne : crc (le4 e.length ++ e.set (d - 4) b) ≠ crc (le4 e.length ++ e) := by
      intro hcrc
      have hi : d - 4 < e.length := by omega
      have e1 : e = e.take (d - 4) ++ e[d - 4] :: e.drop (d - 4 + 1) := by
        rw [List.getElem_cons_drop, List.take_append_drop]
      have e2 : e.set (d - 4) b = e.take (d - 4) ++ b :: e.drop (d - 4 + 1) := by
        rw [List.set_eq_take_append_cons_drop, if_pos hi]
      have e3 : (recB e).getD d 0 = e[d - 4] := by
        unfold recB
        rw [List.getD_eq_getElem?_getD, List.getElem?_append_left (by rw [List.length_append, le4_length]; omega), List.getElem?_append_right (by rw [le4_length]; omega), le4_length, List.getElem?_eq_getElem hi]
        rfl
      rw [e2] at hcrc
      conv at hcrc => rhs; rw [e1]
      have h5 : crc ((le4 e.length ++ e.take (d - 4)) ++ b :: e.drop (d - 4 + 1)) = crc ((le4 e.length ++ e.take (d - 4)) ++ e[d - 4] :: e.drop (d - 4 + 1)) := by
        rw [List.append_assoc, List.append_assoc]
        have h6 : (le4 e.length ++ (e.take (d - 4) ++ e[d - 4] :: e.drop (d - 4 + 1))) = le4 e.length ++ e := by rw [← e1]
        have h7 : crc (le4 e.length ++ (e.take (d - 4) ++ b :: e.drop (d - 4 + 1))) = crc (le4 e.length ++ e) := by
          rw [hcrc]
          congr 2
          conv => rhs; rw [e1]
          rw [← e1]
        rw [h7, h6]
      exact hb (by rw [e3]; exact crc_one h5)
    have hlen : (e.set (d - 4) b).length = e.length := List.length_set
    rw [hset]
    have hsh := fDec_shape (e.set (d - 4) b) (le4 (crc (le4 e.length ++ e))) r (by omega) rfl
    rw [hlen] at hsh
    have hw := w4_le4 [] hcr
    rw [List.append_nil] at hw
    rw [hsh, hw, if_pos hne]
  · -- within the checksum
    have hset : (recB e).set d b = le4 e.length ++ e ++ (le4 (crc (le4 e.length ++ e))).set (d - (4 + e.length)) b := by
      unfold recB
      rw [List.set_append_right _ _ (by rw [List.length_append, le4_length]; omega), List.length_append, le4_length]
    have hi : d - (4 + e.length) < (le4 (crc (le4 e.length ++ e))).length := by rw [le4_length]; omega
    have e3 : (recB e).getD d 0 = (le4 (crc (le4 e.length ++ e))).getD (d - (4 + e.length)) 0 := by
      unfold recB
      rw [List.getD_eq_getElem?_getD, List.getElem?_append_right (by rw [List.length_append, le4_length]; omega), List.length_append, le4_length, List.getD_eq_getElem?_getD]
    have hne : crc (le4 e.length ++ e) ≠ w4 ((le4 (crc (le4 e.length ++ e))).set (d - (4 + e.length)) b) := by
      intro hc4
      have hb4 := congrArg le4 hc4
      rw [le4_w4 (by rw [List.length_set, le4_length]; omega), List.take_of_length_le (by rw [List.length_set, le4_length]; omega)] at hb4
      refine hb ?_
      rw [e3, hb4, List.getD_eq_getElem?_getD, List.getElem?_set_self hi]
      rfl
    rw [hset, fDec_shape _ _ _ (by omega) (by rw [List.length_set, le4_length]), if_pos hne]

theorem scan_damaged (es : List En) (E : En) (r : List UInt8) (h : VEs es) (hE : VE E) (k : Nat) (h1 : (logB es).length + 4 ≤ k) (h2 : k < (logB (es ++ [E])).length) (b : UInt8) (hb : b ≠ (logB (es ++ [E]) ++ r).getD k 0) :
    scan ((logB (es ++ [E]) ++ r).set k b) = (es, (logB es).length, 270) := by
  rw [logB_append, logB_one] at h2 hb ⊢
  rw [List.length_append] at h2
  have e : ((logB es ++ recB (encEn E)) ++ r).set k b = logB es ++ ((recB (encEn E)).set (k - (logB es).length) b ++ r) := by
    rw [List.append_assoc, List.set_append_right _ _ (by omega), List.set_append_left _ _ (by omega)]
  have hg : ((logB es ++ recB (encEn E)) ++ r).getD k 0 = (recB (encEn E)).getD (k - (logB es).length) 0 := by
    rw [List.getD_eq_getElem?_getD, List.getD_eq_getElem?_getD, List.append_assoc, List.getElem?_append_right (by omega), List.getElem?_append_left (by omega)]
  rw [hg] at hb
  rw [e, scan_log es _ h, scan_err _ (fDec_damaged hE r _ (by omega) (by omega) b hb)]
  · simp
  · intro hnil
    have := congrArg List.length hnil
    rw [List.length_append, List.length_set, recB_length', List.length_nil] at this
    omega

/-- Another byte of the last body, another hash. -/
theorem chain_changed (es : List En) (e : En) (j : Nat) (b : UInt8) (hj : j < e.body.length) (hb : b ≠ e.body.getD j 0) :
    chainH (es ++ [{ e with body := e.body.set j b }]) ≠ chainH (es ++ [e]) := by
  have s : ∀ x : En, chainH (es ++ [x]) = chainUp (chainH es) x := fun x => by rw [chainH, List.foldl_append]; rfl
  rw [s, s]
  unfold chainUp encEn encE
  dsimp only
  rw [List.length_set]
  intro h
  have e1 : e.body = e.body.take j ++ e.body[j] :: e.body.drop (j + 1) := by rw [List.getElem_cons_drop, List.take_append_drop]
  have e2 : e.body.set j b = e.body.take j ++ b :: e.body.drop (j + 1) := by rw [List.set_eq_take_append_cons_drop, if_pos hj]
  generalize hpre : vEnc (2 * e.kind.toNat) ++ vEnc (2 * e.key.length) ++ e.key ++ vEnc (2 * e.body.length) = pre at h
  have h5 : crc ((le4 (chainH es) ++ pre ++ e.body.take j) ++ b :: e.body.drop (j + 1)) = crc ((le4 (chainH es) ++ pre ++ e.body.take j) ++ e.body[j] :: e.body.drop (j + 1)) := by
    have a1 : (le4 (chainH es) ++ pre ++ e.body.take j) ++ b :: e.body.drop (j + 1) = le4 (chainH es) ++ (pre ++ e.body.set j b) := by rw [e2]; simp only [List.append_assoc]
    have a2 : (le4 (chainH es) ++ pre ++ e.body.take j) ++ e.body[j] :: e.body.drop (j + 1) = le4 (chainH es) ++ (pre ++ e.body) := by
      conv => rhs; rw [e1]
      simp only [List.append_assoc]
    rw [a1, a2, h]
  refine hb ?_
  rw [crc_one h5, List.getD_eq_getElem?_getD, List.getElem?_eq_getElem hj]
  rfl
end Go.Proofs.YtcohgkiloaapcaaDoor

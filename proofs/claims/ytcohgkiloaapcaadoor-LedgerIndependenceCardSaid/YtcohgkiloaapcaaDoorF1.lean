/- Contracts: ledger.ChainHash. -/
import Derived.Test.YtcohgkiloaapcaaDoorF0
namespace Go.Proofs.YtcohgkiloaapcaaDoor
open Go.RowKit

theorem rowsOf_get : ∀ (ys : List Rec) (i : Nat) (hi : i < ys.length) (t : Nat), t < 3 → (rowsOf ys)[3 * i + t]? = (newE ys[i])[t]?
  | [], i, hi, _, _ => by simp at hi
  | y :: ys, 0, _, t, ht => by
    have : t = 0 ∨ t = 1 ∨ t = 2 := by omega
    rcases this with rfl | rfl | rfl <;> simp [rowsOf, newE]
  | y :: ys, i + 1, hi, t, ht => by
    have h := rowsOf_get ys i (by simpa using hi) t ht
    have e : rowsOf (y :: ys) = newE y ++ rowsOf ys := by simp [rowsOf, newE]
    rw [e, List.getElem?_append_right (by simp [newE]; omega), show 3 * (i + 1) + t - (newE y).length = 3 * i + t by simp [newE]; omega, h]
    rfl

theorem es_range {w : World} {A : Option Addr} {n c : Nat} {ys : List Rec} (h : Es w A n c ys) (hn : 0 < n) : ∃ b o, A = some ⟨b, o, none⟩ ∧ ∀ i (hi : i < ys.length), w.rangeAt b (o + 3 * i) (newE ys[i]) := by
  have hr : 0 < (rowsOf ys).length := by
    have hl := h.len
    cases ys with
    | nil => simp at hl; omega
    | cons y ys => simp [rowsOf]
  obtain ⟨b, o, e, hc⟩ := h.rd hr
  refine ⟨b, o, e, fun i hi t u hu => ?_⟩
  have ht : t < 3 := by have := (List.getElem?_eq_some_iff.1 hu).1; simpa [newE] using this
  have := hc (3 * i + t) u (by rw [rowsOf_get ys i hi t ht]; exact hu)
  rwa [show o + (3 * i + t) = o + 3 * i + t by omega] at this

theorem load3o {ops : Array Oper} {rest : List Oper} {dst : Option Tmp} {t : TypeId} {pos : String} {after : Array Edge} {a : Act} {w : World} {Q : Exit → Act → World → Prop} {x : Operand} (b o : Nat) (k : Int) (s : ByteArray) (A : Option Addr) (m c : Nat)
    (hx : a.eval x = .pointer (some ⟨b, o, none⟩)) (hr : w.rangeAt b o [.int .i64 k, .string s, .slice A m c])
    (h : wpList Tryd.prog ops Q rest (a.put dst (.agg #[.int .i64 k, .string s, .slice A m c])) w) :
    wpList Tryd.prog ops Q ({ dst := dst, op := .load 25 x, type := t, pos := pos, after := after, guard := none } :: rest) a w :=
  wpList_load_mid rfl 25 x rfl b o hx [.int .i64 k, .string s, .slice A m c] _ hr Tryd.underlying25 rfl info25 h

/-- An entry that may be encoded. -/
def VE (e : En) : Prop := vldE e.kind e.key.length e.body.length = true
theorem VE.kind {e : En} (h : VE e) : ∃ k : Nat, e.kind = k ∧ vldE k e.key.length e.body.length = true := by
  have h' := h
  simp [VE, vldE] at h
  obtain ⟨k, hk⟩ := Int.eq_ofNat_of_zero_le (show 0 ≤ e.kind by omega)
  exact ⟨k, hk, by unfold VE at h'; rw [hk] at h'; exact h'⟩

/-- The bytes of an entry. -/
def encEn (e : En) : List UInt8 := encE e.kind.toNat e.key e.body
def chainUp (h : Nat) (e : En) : Nat := crc (le4 h ++ encEn e)
def chainH (es : List En) : Nat := es.foldl chainUp 0

set_option maxRecDepth 20000 in
set_option maxHeartbeats 1000000 in
theorem chain_ok (A : Option Addr) (n c : Nat) (ys : List Rec) (w : World) (hE : Es w A n c ys) (hn : n ≤ 1000000) (hv : ∀ y, y ∈ ys → VE y.E) (z : Nat) (hz : z = chainH (ys.map (·.E))) :
    Calls Tryd.prog 22 #[.slice A n c] w fun e w' => e = .returned (.int .u32 (z : Nat)) ∧ Below w.heap.size w w' := by
  have hZ := Lib.hid hz
  have hL := Lib.hid hE.len
  clear hz
  go_enter Tryd.func22, Tryd.ntmps22
  go_wp2_with fail
  go_loopw [3, 10] (fun h s wr => ∃ i : Nat, s = .int .i64 i ∧ i ≤ n ∧ h = .int .u32 (chainH ((ys.take i).map (·.E)) : Nat) ∧ Below w.heap.size w wr) (fun _ s _ => n - (intOf s).toNat)
  case atStart => exact ⟨0, rfl, by omega, rfl, Below.refl _ _⟩
  case round =>
    obtain ⟨i, rfl, hi, rfl, hB⟩ := hrel
    by_cases hlt : i < n
    · have hil : i < ys.length := by rw [hL.out]; exact hlt
      have hEr := hE.below hB
      obtain ⟨b, o, rfl, hr⟩ := es_range hEr (by omega)
      have hri := hr i hil
      have hbi := hEr.bd _ (List.getElem_mem hil)
      obtain ⟨k, hk, hvk⟩ := (hv _ (List.getElem_mem hil)).kind
      have hlti : (i : Int) < n := by omega
      generalize hy : ys[i] = y at *
      unfold newE at hri
      rw [hk] at hri
      rw [show o + 3 * i = o + i * 3 by omega] at hri
      have hst : ys.take (i + 1) = ys.take i ++ [y] := by rw [List.take_succ_eq_append_getElem hil, hy]
      have HS := Lib.hid (show chainH ((ys.take (i + 1)).map (·.E)) = chainUp (chainH ((ys.take i).map (·.E))) y.E by rw [hst, List.map_append, chainH, List.foldl_append]; rfl)
      generalize chainH ((ys.take i).map (·.E)) = h at *
      have hbA := hbi.below (below_al wr (.cells #[.int .i64 k, .string (strOf y.E.key), .slice y.A y.m y.c] 25))
      have hbl := hbi.len
      have hc35 := encodeEntry_yes k (strOf y.E.key) y.A y.m y.c y.E.body _ hbA (by rw [strOf_size, ← hbl]; exact hvk) _ rfl
      have HB := Lib.hid hB
      clear hst hE hEr hr hv hB hy hbi hbA
      go_wp2_with (first | ((with_reducible refine load3o b (o + i * 3) k (strOf y.E.key) y.A y.m y.c ?_ ?_ ?_); exact rfl; exact hri) | (go_at_call 35; go_must (refine hc35.mono ?_); rintro e w1 ⟨A1, n1, c1, rfl, hL1, hB1, hown1⟩) | (go_at_call 37; go_must (refine (putWord w1 none 0 0 [] h w1 _ rfl (World.ownsRow_nil _ _ _ _) (Below.refl _ _) (by omega)).mono ?_); rintro e w2 ⟨A2, n2, c2, rfl, hL2, hB2, hown2⟩))
      have hel : (encE k (strB (strOf y.E.key)) y.E.body).length ≤ 21000 := by
        have hv : (1 ≤ k ∧ k ≤ 4) ∧ 1 ≤ y.E.key.length ∧ y.E.key.length ≤ 40 ∧ y.E.body.length ≤ 20000 := by simp [vldE] at hvk; omega
        have h3 := vEnc_len 9 (2 * k) (by omega)
        have h4 := vEnc_len 9 (2 * (strB (strOf y.E.key)).length) (by rw [strB_strOf]; omega)
        have h5 := vEnc_len 9 (2 * y.E.body.length) (by omega)
        simp [encE, strB_strOf] at h4 ⊢
        omega
      have hn1 : n1 ≤ 21000 := by have := hL1.out; omega
      have hn2 : n2 = 4 := by have := hL2.out; simp [le4] at this; omega
      have hBs1 : Bs (w2.alloc (.cells #[.slice A2 n2 c2, .slice A1 n1 c1] 22)) A1 n1 c1 (encEn y.E) := by
        have := ((Bs.own hown1).below hB2).below (below_al w2 (.cells #[.slice A2 n2 c2, .slice A1 n1 c1] 22))
        rw [strB_strOf] at this
        rw [encEn, hk]
        exact this
      have hBs2 : Bs (w2.alloc (.cells #[.slice A2 n2 c2, .slice A1 n1 c1] 22)) A2 n2 c2 (le4 h) := (Bs.own hown2).below (below_al _ _)
      have hcell : ∀ j (hj : j < [(⟨A2, n2, c2, le4 h⟩ : Part), ⟨A1, n1, c1, encEn y.E⟩].length), (w2.alloc (.cells #[.slice A2 n2 c2, .slice A1 n1 c1] 22)).cell? ⟨w2.heap.size, 0 + j, none⟩ = some (.slice [(⟨A2, n2, c2, le4 h⟩ : Part), ⟨A1, n1, c1, encEn y.E⟩][j].A [(⟨A2, n2, c2, le4 h⟩ : Part), ⟨A1, n1, c1, encEn y.E⟩][j].n [(⟨A2, n2, c2, le4 h⟩ : Part), ⟨A1, n1, c1, encEn y.E⟩][j].c) := fun j hj => by
        rw [Nat.zero_add, cell_of_row _ _ j _ 22 (0, 0) (heap_alloc_new w2 _)]
        have : j = 0 ∨ j = 1 := by simp at hj; omega
        rcases this with rfl | rfl <;> rfl
      have hcat := concat w2.heap.size 0 2 2 [⟨A2, n2, c2, le4 h⟩, ⟨A1, n1, c1, encEn y.E⟩] _ (le4 h ++ encEn y.E) (by simp [partAll]) rfl hcell (fun p hp => by
        simp only [List.mem_cons, List.not_mem_nil, or_false] at hp
        rcases hp with rfl | rfl
        · exact hBs2
        · exact hBs1) (by simp [partSum]; omega) (by decide)
      have HW := Lib.hid (below_then (below_then (below_then HB.out ((below_al wr (.cells #[.int .i64 k, .string (strOf y.E.key), .slice y.A y.m y.c] 25)).trans (hB1.mono (by simp)))) hB2) (below_al w2 (.cells #[.slice A2 n2 c2, .slice A1 n1 c1] 22)))
      have hbnd : (le4 h ++ encEn y.E).length ≤ 22000 := by rw [List.length_append, le4_length, hBs1.len]; omega
      clear hcell hBs1 hBs2 hB1 hB2 hown1 hown2
      go_wp2_with (first | (go_at_call 29; go_must (refine hcat.mono ?_); rintro e w3 ⟨A3, n3, c3, rfl, hL3, hB3, hown3⟩; have hc36 := checksum _ _ _ _ _ (Bs.own hown3) (by have := hL3.out; omega)) | (go_at_call 36; go_must (refine hc36.mono ?_); rintro e w4 ⟨rfl, hB4⟩))
      go_roundw
      case rel => exact ⟨i + 1, rfl, by omega, by rw [HS.out]; rfl, below_then (below_then HW.out hB3) hB4⟩
      case measure => simp [intOf]; omega
    · obtain rfl : i = n := by omega
      go_wp2_with fail
      go_ret
      refine ⟨?_, hB⟩
      rw [hZ.out, List.take_of_length_le (by rw [hL.out]; omega)]
      rfl
end Go.Proofs.YtcohgkiloaapcaaDoor

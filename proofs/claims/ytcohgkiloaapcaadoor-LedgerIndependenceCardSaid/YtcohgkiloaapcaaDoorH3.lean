/- Contracts: the reference's ChainHash. -/
import Derived.Test.YtcohgkiloaapcaaDoorH2
namespace Go.Proofs.YtcohgkiloaapcaaDoor
open Go.RowKit

theorem rowsOf_take (ys : List Rec) (m : Nat) : rowsOf (ys.take m) = (rowsOf ys).take (3 * m) := by
  induction ys generalizing m with
  | nil => simp [rowsOf]
  | cons y ys ih =>
    cases m with
    | zero => simp [rowsOf]
    | succ m =>
      have e : ∀ zs : List Rec, rowsOf (y :: zs) = newE y ++ rowsOf zs := fun zs => by simp [rowsOf, newE]
      have hl : (newE y).length = 3 := rfl
      rw [List.take_succ_cons, e, e, ih, List.take_append, List.take_of_length_le (l := newE y) (by omega), hl, show 3 * (m + 1) - 3 = 3 * m by omega]

theorem es_take {w : World} {A : Option Addr} {n c : Nat} {ys : List Rec} (h : Es w A n c ys) (m : Nat) (hm : m ≤ n) : Es w A m c (ys.take m) := by
  refine ⟨by rw [List.length_take, h.len]; omega, by have := h.le; omega, h.max, fun hp => ?_, fun x hx => h.bd x (List.mem_of_mem_take hx)⟩
  have hr : 0 < (rowsOf ys).length := by
    rw [rowsOf_take, List.length_take] at hp; omega
  obtain ⟨b, o, e, hc⟩ := h.rd hr
  refine ⟨b, o, e, fun j u hj => hc j u ?_⟩
  rw [rowsOf_take, List.getElem?_take] at hj
  split at hj
  · exact hj
  · cases hj

theorem cut_hE (A : Option Addr) (n c hi : Nat) (H : Int) (hH : H = hi) (h2 : hi ≤ n) (hc : n ≤ c) :
    ∃ A', (∀ W : World, (Instr.slice 23 (.slice A n c) none (some (.int .i64 H)) none).run Tryd.prog W = .ok (.slice A' hi c) W) ∧ ∀ w ys, Es w A n c ys → Es w A' hi c (ys.take hi) := by
  obtain ⟨i, hi0, _, hz1, _⟩ := info_parts infoE25
  subst hH
  refine ⟨if c = 0 then A else A.map (·.add 0), fun W => ?_, fun w ys h => ?_⟩
  · have hel : Tryd.prog.elem 23 = 25 := by simp [Program.elem, Tryd.underlying23]
    have hu : Tryd.prog.underlying 23 = some (.slice (Tryd.prog.elem 23)) := by rw [hel]; exact Tryd.underlying23
    rw [run_slice_h W 23 A n c hu .i64 hi (by omega) (by omega), hel]
    simp [sizeOf, typeInfo, hi0, hz1, sliced, Result.andThen]
  · have e : (if c = 0 then A else A.map (·.add 0)) = A := by
      split
      · rfl
      · cases A with
        | none => rfl
        | some a => simp [Addr.add]
    rw [e]
    exact es_take h hi h2

theorem chainH_snoc (ys : List Rec) (y : Rec) : chainH ((ys ++ [y]).map (·.E)) = chainUp (chainH (ys.map (·.E))) y.E := by
  rw [List.map_append, chainH, List.foldl_append]; rfl
theorem crc_lt (l : List UInt8) : crc l < 4294967296 := by unfold crc; omega
theorem chainH_lt : ∀ (es : List En) (h : Nat), h < 4294967296 → es.foldl chainUp h < 4294967296
  | [], h, hh => hh
  | e :: es, h, _ => chainH_lt es _ (crc_lt _)

set_option maxRecDepth 20000 in
set_option maxHeartbeats 1000000 in
theorem refChain : ∀ (n : Nat) (A : Option Addr) (c : Nat) (ys : List Rec) (w : World), Es w A n c ys → n ≤ 1000000 → (∀ y, y ∈ ys → VE y.E) → ∀ z : Nat, z = chainH (ys.map (·.E)) →
    Calls Tryd.prog 23 #[.slice A n c] w fun e w' => e = .returned (.int .u32 (z : Nat)) ∧ Below w.heap.size w w' := by
  intro n
  induction n with
  | zero =>
    intro A c ys w hE hn hv z hz
    have h0 : ys = [] := List.eq_nil_of_length_eq_zero hE.len
    subst h0
    obtain rfl : z = 0 := hz
    clear hE hv
    go_enter Tryd.func23, Tryd.ntmps23
    go_wp2_with fail
    go_ret
    exact ⟨rfl, Below.refl _ _⟩
  | succ n ih =>
    intro A c ys w hE hn hv z hz
    have hZ := Lib.hid hz
    clear hz
    have hl := hE.len
    have hle := hE.le
    have hil : n < ys.length := by omega
    obtain ⟨b, o, rfl, hr⟩ := es_range hE (by omega)
    have hri := hr n hil
    rw [show o + 3 * n = o + n * 3 by omega] at hri
    have hsplit : ys = ys.take n ++ [ys[n]] := by
      rw [← List.take_succ_eq_append_getElem hil, List.take_of_length_le (by omega)]
    have hbd := hE.bd _ (List.getElem_mem hil)
    obtain ⟨k, hk, hvk⟩ := (hv _ (List.getElem_mem hil)).kind
    have hS := Lib.hid (show z = chainUp (chainH ((ys.take n).map (·.E))) ys[n].E by
      rw [hZ.out]
      conv => lhs; rw [hsplit]
      exact chainH_snoc _ _)
    have hih := fun W (hW : Below w.heap.size w W) => ih (some ⟨b, o, none⟩) c (ys.take n) W (es_take (hE.below hW) n (by omega)) (by omega) (fun y hy => hv y (List.mem_of_mem_take hy)) _ rfl
    have hh32 : chainH ((ys.take n).map (·.E)) < 4294967296 := chainH_lt _ _ (by decide)
    generalize chainH ((ys.take n).map (·.E)) = h at *
    generalize ys[n] = y at *
    unfold newE at hri
    rw [hk] at hri
    have hbl := hbd.len
    have hc38 := refEnc_yes k (strOf y.E.key) y.A y.m y.c y.E.body w hbd (by rw [strOf_size, ← hbl]; exact hvk) _ rfl
    have hel : (encE k (strB (strOf y.E.key)) y.E.body).length ≤ 21000 := by
      have hv : (1 ≤ k ∧ k ≤ 4) ∧ 1 ≤ y.E.key.length ∧ y.E.key.length ≤ 40 ∧ y.E.body.length ≤ 20000 := by simp [vldE] at hvk; omega
      have h3 := vEnc_len 9 (2 * k) (by omega)
      have h4 := vEnc_len 9 (2 * (strB (strOf y.E.key)).length) (by rw [strB_strOf]; omega)
      have h5 := vEnc_len 9 (2 * y.E.body.length) (by omega)
      simp [encE, strB_strOf] at h4 ⊢
      omega
    have hn0 : (((n : Int) + 1) == 0) = false := by simp; omega
    have hn1 : (n : Int) + 1 - 1 = n := by omega
    clear hr hsplit hE hv ih hbd
    go_enter Tryd.func23, Tryd.ntmps23
    go_wp2_with (first | ((with_reducible refine load3o b (o + n * 3) k (strOf y.E.key) y.A y.m y.c ?_ ?_ ?_); exact rfl; exact hri) | (go_at_call 38; go_must (refine hc38.mono ?_); rintro e w1 ⟨A1, n1, c1, rfl, hL1, hB1, hown1⟩; have hBa := below_al w1 (.cells #[] 5); have ho1 := own_empty w1 5 1) | (go_at_call 23; refine (hih _ (below_then hB1 hBa)).mono ?_; clear hih; rintro e w2 ⟨rfl, hB2⟩; have hB12 := below_then hBa hB2; have hc39 := refWord w1 _ 0 0 [] h hh32 w2 _ rfl (own_below ho1 hB2) hB12 (by omega)) | (go_at_call 39; go_must (refine hc39.mono ?_); rintro e w3 ⟨A3, n3, c3, rfl, hL3, hB3, hown3⟩) | (at_builtin; go_must (refine wpList_of_append rfl _ _ 22 rfl rfl rfl (run_own w1 _ 22 22 5 (.int .u8 0) 1 1 Tryd.underlying22 info5 rfl (by decide) (by decide) _ _ _ hown3 hB3 _ _ _ (bys (encE k (strB (strOf y.E.key)) y.E.body)) ?_ ((Bs.own hown1).rd.below hB3) (bys_one _) ?_) ?_)))
    · rw [bys_length, hL1.out]; simp
    · have h1 := hL3.out
      have h2 := hL1.out
      simp [le4] at h1
      omega
    · intro v4 w4 hown4 hB4
      obtain ⟨A4, c4, rfl, -, -⟩ := own_shape hown4
      rw [← bys_append] at hown4
      have hn3 : n3 = 4 := by have := hL3.out; simp [le4] at this; omega
      have hn1' : n1 ≤ 21000 := by have := hL1.out; omega
      have hnn : n3 + n1 ≤ 1000000000 := by omega
      generalize n3 + n1 = nn at *
      obtain ⟨zz, hzz⟩ : ∃ zz, zz = crc ([] ++ le4 h ++ encE k (strB (strOf y.E.key)) y.E.body) := ⟨_, rfl⟩
      have hc40 := refChecksum A4 nn c4 _ w4 (Bs.own hown4) hnn zz hzz
      have HZZ := Lib.hid hzz
      clear hzz
      clear hown4 hown3 hB2 hB12 hB3 hc39 ho1 hBa hown1
      go_wp2_with (go_at_call 40; go_must (refine hc40.mono ?_); rintro e w5 ⟨rfl, rfl⟩)
      go_ret
      refine ⟨ret_int ?_, below_then hB1 hB4⟩
      rw [hS.out, chainUp, encEn, hk, HZZ.out, strB_strOf]
      rfl
end Go.Proofs.YtcohgkiloaapcaaDoor

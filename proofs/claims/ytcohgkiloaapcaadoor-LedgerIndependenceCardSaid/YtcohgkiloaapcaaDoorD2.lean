/- Contracts: ledger.first. -/
import Derived.Test.YtcohgkiloaapcaaDoorD1
namespace Go.Proofs.YtcohgkiloaapcaaDoor
open Go.RowKit

/-- The first record of a log: its entry and its length, or the error's code. -/
def fDec (xs : List UInt8) : Except Nat (En × Nat) :=
  if xs.length < 4 then .error 271
  else if xs.length < w4 xs + 8 then .error 271
  else if crc (xs.take (4 + w4 xs)) ≠ w4 (xs.drop (4 + w4 xs)) then .error 270
  else match eDec ((xs.take (4 + w4 xs)).drop 4) with
    | .error _ => .error 272
    | .ok (E, l) => if l = [] then .ok (E, w4 xs + 8) else .error 272

def FirstNo (cd : Nat) (w : World) (e : Ending) (w' : World) : Prop :=
  e = .returned (.tuple #[.agg #[.int .i64 0, .string ByteArray.empty, .slice none 0 0], .int .i64 0, .iface 66 (.agg #[.int .i64 cd])]) ∧ Below w.heap.size w w'

set_option maxRecDepth 20000 in
theorem first_short {A : Option Addr} {n c : Nat} {w : World} (hn : n < 4) : Calls Tryd.prog 43 #[.slice A n c] w (FirstNo 271 w) := by
  have h4 : (n : Int) < 4 := by omega
  have hth : (w.alloc En0).there w.heap.size 0 3 := there_block (heap_alloc_new w En0)
  unfold En0 at hth
  go_enter Tryd.func43, Tryd.ntmps43
  go_wp2_with (refine wpList_store_mid rfl 25 _ _ rfl w.heap.size 0 #[.int .i64 0, .string ByteArray.empty, .slice none 0 0] rfl rfl hth info25 (one3 _ _ _) ?_)
  refine bodyPost_ret (results_cell3 rfl _ _ w.heap.size 0 [.int .i64 0, .string ByteArray.empty, .slice none 0 0] _ rfl (World.rangeAt_setCells_same _ _ _ _ hth) Tryd.underlying25 rfl info25) rfl ?_
  exact ⟨rfl, setCells_below _ (Nat.le_refl _) _ _ _ (below_al w _)⟩

set_option maxRecDepth 20000 in
theorem first_cut {A : Option Addr} {n c : Nat} {xs : List UInt8} {w : World} (hb : Bs w A n c xs) (hn : n ≤ 1000000000) (h4 : 4 ≤ n) (h8 : n < w4 xs + 8) : Calls Tryd.prog 43 #[.slice A n c] w (FirstNo 271 w) := by
  have hn4 : ¬ (n : Int) < 4 := by omega
  have hth : ∀ W : World, Below (w.heap.size + 1) (w.alloc En0) W → W.there w.heap.size 0 3 := fun W h => there_block ((h.block _ (by omega)).trans (heap_alloc_new w En0))
  have hc := getWord A n c xs (w.alloc En0) (hb.below (below_al w En0)) h4
  have hsz : (w.alloc En0).heap.size = w.heap.size + 1 := by simp
  rw [hsz] at hc
  have hk := w4_lt xs
  generalize w4 xs = k at *
  have hk8 : (n : Int) - 8 < k := by omega
  unfold En0 at hc
  clear hb h8
  go_enter Tryd.func43, Tryd.ntmps43
  go_wp2_with (first | (go_at_call 55; go_must (refine hc.mono ?_); rintro e w1 ⟨rfl, hg⟩; have hth1 := hth w1 hg) | (refine wpList_store_mid rfl 25 _ _ rfl w.heap.size 0 #[.int .i64 0, .string ByteArray.empty, .slice none 0 0] rfl rfl hth1 info25 (one3 _ _ _) ?_))
  refine bodyPost_ret (results_cell3 rfl _ _ w.heap.size 0 [.int .i64 0, .string ByteArray.empty, .slice none 0 0] _ rfl (World.rangeAt_setCells_same _ _ _ _ hth1) Tryd.underlying25 rfl info25) rfl ?_
  exact ⟨rfl, setCells_below _ (Nat.le_refl _) _ _ _ ((below_al w En0).trans (hg.mono (by omega)))⟩

theorem drew_of {B : Nat} {w W : World} (h : Below B w W) : Below B w W.drew := ⟨h.os, h.tape, h.output, h.size, h.block⟩

theorem vDec_err : ∀ (l : List UInt8) (i u cd : Nat), vDec i u l = .error cd → cd ≠ 0
  | [], i, u, cd, h => by simp [vDec] at h; omega
  | x :: l, i, u, cd, h => by
    rw [vDec] at h
    split at h
    · cases h; decide
    · split at h
      · cases h
      · exact vDec_err l _ _ _ h
theorem nDec_err {lo hi : Int} {l : List UInt8} {cd : Nat} (h : nDec lo hi l = .error cd) : cd ≠ 0 := by
  unfold nDec at h
  cases hv : vDec 0 0 l with
  | error c => rw [hv] at h; cases h; exact vDec_err _ _ _ _ hv
  | ok x =>
    rw [hv] at h
    dsimp only at h
    split at h
    · cases h; decide
    · cases h
theorem bDec_err {lo hi : Int} {l : List UInt8} {cd : Nat} (h : bDec lo hi l = .error cd) : cd ≠ 0 := by
  unfold bDec at h
  cases hv : nDec lo hi l with
  | error c => rw [hv] at h; cases h; exact nDec_err hv
  | ok x =>
    rw [hv] at h
    dsimp only at h
    split at h
    · cases h; decide
    · cases h
theorem eDec_err {l : List UInt8} {cd : Nat} (h : eDec l = .error cd) : cd ≠ 0 := by
  unfold eDec at h
  cases hv : nDec 1 4 l with
  | error c => rw [hv] at h; cases h; exact nDec_err hv
  | ok x =>
    rw [hv] at h
    dsimp only at h
    cases h2 : bDec 1 40 x.2 with
    | error c => rw [h2] at h; cases h; exact bDec_err h2
    | ok y =>
      rw [h2] at h
      dsimp only at h
      cases h3 : bDec 0 20000 y.2 with
      | error c => rw [h3] at h; cases h; exact bDec_err h3
      | ok z => rw [h3] at h; cases h

theorem store3 {ops : Array Oper} {rest : List Oper} {dst : Option Tmp} {t : TypeId} {pos : String} {after : Array Edge} {a : Act} {w : World} {Q : Exit → Act → World → Prop} {x y : Operand} (b : Nat) (k : Int) (s : ByteArray) (A : Option Addr) (m c : Nat)
    (hx : a.eval x = .pointer (some ⟨b, 0, none⟩)) (hy : a.eval y = .agg #[.int .i64 k, .string s, .slice A m c]) (ht : w.there b 0 3)
    (h : wpList Tryd.prog ops Q rest (a.put dst undef) (w.setCells b 0 [.int .i64 k, .string s, .slice A m c])) :
    wpList Tryd.prog ops Q ({ dst := dst, op := .store 25 x y, type := t, pos := pos, after := after, guard := none } :: rest) a w :=
  wpList_store_mid rfl 25 x y rfl b 0 #[.int .i64 k, .string s, .slice A m c] hx hy ht info25 (one3 _ _ _) h
theorem load3 {ops : Array Oper} {rest : List Oper} {dst : Option Tmp} {t : TypeId} {pos : String} {after : Array Edge} {a : Act} {w : World} {Q : Exit → Act → World → Prop} {x : Operand} (b : Nat) (k : Int) (s : ByteArray) (A : Option Addr) (m c : Nat)
    (hx : a.eval x = .pointer (some ⟨b, 0, none⟩)) (hr : w.rangeAt b 0 [.int .i64 k, .string s, .slice A m c])
    (h : wpList Tryd.prog ops Q rest (a.put dst (.agg #[.int .i64 k, .string s, .slice A m c])) w) :
    wpList Tryd.prog ops Q ({ dst := dst, op := .load 25 x, type := t, pos := pos, after := after, guard := none } :: rest) a w :=
  wpList_load_mid rfl 25 x rfl b 0 hx [.int .i64 k, .string s, .slice A m c] _ hr Tryd.underlying25 rfl info25 h

/-- A new variable that was stored into, and an older one. -/
theorem new3 {w2 : World} {b : Nat} (hb : b < w2.heap.size) (ht : w2.there b 0 3) (x y z : Value) :
    (w2.alloc En0).there w2.heap.size 0 3 ∧ ((w2.alloc En0).setCells w2.heap.size 0 [x, y, z]).rangeAt w2.heap.size 0 [x, y, z] ∧ ((w2.alloc En0).setCells w2.heap.size 0 [x, y, z]).there b 0 3 :=
  ⟨there_block (heap_alloc_new _ _), World.rangeAt_setCells_same _ _ _ _ (there_block (heap_alloc_new _ _)), World.there_setCells (World.there_alloc ht _) _ _ _⟩

def FPost (xs : List UInt8) (w : World) (r : Except Nat (En × Nat)) (e : Ending) (w' : World) : Prop :=
  match r with
  | .error cd => FirstNo cd w e w'
  | .ok (E, m) => (∃ v, e = .returned (.tuple #[v, .int .i64 m, .nilIface]) ∧ EnV w' E v) ∧ Below w.heap.size w w'

set_option maxRecDepth 20000 in
set_option maxHeartbeats 2000000 in
theorem first_long {A : Option Addr} {n c : Nat} {xs : List UInt8} {w : World} (hb : Bs w A n c xs) (hn : n ≤ 1000000000) (h8 : w4 xs + 8 ≤ n) : Calls Tryd.prog 43 #[.slice A n c] w (FPost xs w (fDec xs)) := by
  have hn4 : ¬ (n : Int) < 4 := by omega
  have hb0 := hb.below (below_al w En0)
  have hc := getWord A n c xs (w.alloc En0) hb0 (by omega)
  have hsz : (w.alloc En0).heap.size = w.heap.size + 1 := by simp
  rw [hsz] at hc
  have hlen := Lib.hid hb.len
  have hle := hb.le
  have hR := Lib.hid (show fDec xs = if crc (xs.take (4 + w4 xs)) ≠ w4 (xs.drop (4 + w4 xs)) then .error 270
    else match eDec ((xs.take (4 + w4 xs)).drop 4) with
    | .error _ => .error 272
    | .ok (E, l) => if l = [] then .ok (E, w4 xs + 8) else .error 272 by unfold fDec; rw [hlen.out, if_neg (by omega), if_neg (by omega)])
  generalize hF : fDec xs = R at *
  clear hF
  have hk := w4_lt xs
  generalize w4 xs = k at *
  have hk8 : ¬ (n : Int) - 8 < k := by omega
  obtain ⟨Ah, hcuth, htrh⟩ := cut_h (P := Tryd.prog) 22 5 Tryd.underlying22 info5 A n c (4 + k) (4 + (k : Int)) (by omega) (by omega) hle
  obtain ⟨Al, hcutl, htrl⟩ := cut_l (P := Tryd.prog) 22 5 Tryd.underlying22 info5 A n c (4 + k) (4 + (k : Int)) (by omega) (by omega) hle
  obtain ⟨Am, hcutm, htrm⟩ := cut_lh (P := Tryd.prog) 22 5 Tryd.underlying22 info5 A n c 4 (4 + k) 4 (4 + (k : Int)) (by omega) (by omega) (by omega) (by omega) hle
  rw [show 4 + k - 4 = k by omega] at hcutm htrm
  have hth : ∀ W : World, Below (w.heap.size + 1) (w.alloc En0) W → W.there w.heap.size 0 3 := fun W h => there_block ((h.block _ (by omega)).trans (heap_alloc_new w En0))
  have hB0 := Lib.hid hb0
  unfold En0 at hc
  clear hb hb0
  go_enter Tryd.func43, Tryd.ntmps43
  go_wp2_with (go_at_call 55; go_must (refine hc.mono ?_); rintro e w1 ⟨rfl, hg⟩)
  have hb1 : Bs w1.drew A n c xs := hB0.out.below (by rw [hsz]; exact drew_of hg)
  have hbh := htrh _ _ hb1
  have hbl := htrl _ _ hb1
  have HB1 := Lib.hid hb1
  clear htrh htrl hb1
  refine wp_region_mono (by kernel_rfl)
    [(29, [30, 32, 33, 34, 35, 36, 37], []), (30, [29, 32, 33, 34, 35, 36, 37], []), (31, [29, 30, 33, 34, 35, 36, 37], [(0, 29), (1, 30)]), (32, [29, 30, 31, 33, 34, 35], [(2, 31)]), (33, [29, 30, 31, 32, 34, 36, 37], []), (34, [29, 30, 31, 32, 33, 36, 37], []), (35, [29, 30, 31, 32, 33, 34, 37], [(4, 33), (5, 34)]), (36, [29, 30, 31, 32, 33, 34, 35], [(3, 32), (6, 35)]), (37, [29, 30, 31, 32, 33, 34, 35, 36], [(3, 32), (7, 36)])]
    (by kernel_rfl) (fun i v W => match i with
      | 0 => v = .slice A n c
      | 1 => v = .int .i64 (4 + (k : Int))
      | 2 => v = .slice Ah (4 + k) c
      | 3 => v = .int .u32 (crc (xs.take (4 + k)) : Nat)
      | 4 => v = .slice A n c
      | 5 => v = .int .i64 (4 + (k : Int))
      | 6 => v = .slice Al (n - (4 + k)) (c - (4 + k))
      | 7 => v = .int .u32 (w4 (xs.drop (4 + k)) : Nat)
      | 8 => v = .bool (((crc (xs.take (4 + k)) : Nat) : Int) != ((w4 (xs.drop (4 + k)) : Nat) : Int))
      | _ => True) (by simp) ?_ ?_
  · refine ⟨?_, ?_, ?_, ?_, ?_, ?_, ?_, ?_, ?_, trivial⟩
    · intro us W hW hE K' hK'
      simp only [fillT, Act.put, List.setIfInBounds_toArray, List.set_cons_zero, List.set_cons_succ] at hK' ⊢
      clear hE
      go_wp2_with fail
      exact hK' _ _ (Below.refl _ _) (fun _ _ => rfl)
    · intro us W hW hE K' hK'
      simp only [fillT, Act.put, List.setIfInBounds_toArray, List.set_cons_zero, List.set_cons_succ] at hK' ⊢
      clear hE
      go_wp2_with fail
      exact hK' _ _ (Below.refl _ _) (fun _ _ => rfl)
    · intro us W hW hE K' hK'
      have h0 : us 29 = .slice A n c := hE.1
      have h1 : us 30 = .int .i64 (4 + (k : Int)) := hE.2.1
      simp only [fillT, Act.put, List.setIfInBounds_toArray, List.set_cons_zero, List.set_cons_succ] at hK' ⊢
      rw [h0, h1] at hK' ⊢
      clear hE h0 h1
      go_wp2_with fail
      exact hK' _ _ (Below.refl _ _) (fun _ _ => rfl)
    · intro us W hW hE K' hK'
      have h0 : us 31 = .slice Ah (4 + k) c := hE.1
      simp only [fillT, Act.put, List.setIfInBounds_toArray, List.set_cons_zero, List.set_cons_succ] at hK' ⊢
      rw [h0] at hK' ⊢
      clear hE h0
      go_wp2_with (go_at_call 36; go_must (refine (checksum _ _ _ _ _ (hbh.below hW) (by omega)).mono ?_); rintro e w2 ⟨rfl, hB2⟩)
      exact hK' _ _ hB2 (fun _ _ => rfl)
    · intro us W hW hE K' hK'
      simp only [fillT, Act.put, List.setIfInBounds_toArray, List.set_cons_zero, List.set_cons_succ] at hK' ⊢
      clear hE
      go_wp2_with fail
      exact hK' _ _ (Below.refl _ _) (fun _ _ => rfl)
    · intro us W hW hE K' hK'
      simp only [fillT, Act.put, List.setIfInBounds_toArray, List.set_cons_zero, List.set_cons_succ] at hK' ⊢
      clear hE
      go_wp2_with fail
      exact hK' _ _ (Below.refl _ _) (fun _ _ => rfl)
    · intro us W hW hE K' hK'
      have h0 : us 33 = .slice A n c := hE.1
      have h1 : us 34 = .int .i64 (4 + (k : Int)) := hE.2.1
      simp only [fillT, Act.put, List.setIfInBounds_toArray, List.set_cons_zero, List.set_cons_succ] at hK' ⊢
      rw [h0, h1] at hK' ⊢
      clear hE h0 h1
      go_wp2_with fail
      exact hK' _ _ (Below.refl _ _) (fun _ _ => rfl)
    · intro us W hW hE K' hK'
      have h0 : us 35 = .slice Al (n - (4 + k)) (c - (4 + k)) := hE.2.1
      simp only [fillT, Act.put, List.setIfInBounds_toArray, List.set_cons_zero, List.set_cons_succ] at hK' ⊢
      rw [h0] at hK' ⊢
      clear hE h0
      go_wp2_with (go_at_call 55; go_must (refine (getWord _ _ _ _ _ (hbl.below hW) (by omega)).mono ?_); rintro e w2 ⟨rfl, hB2⟩)
      exact hK' _ _ hB2 (fun _ _ => rfl)
    · intro us W hW hE K' hK'
      have h0 : us 32 = .int .u32 (crc (xs.take (4 + k)) : Nat) := hE.1
      have h1 : us 36 = .int .u32 (w4 (xs.drop (4 + k)) : Nat) := hE.2.1
      simp only [fillT, Act.put, List.setIfInBounds_toArray, List.set_cons_zero, List.set_cons_succ] at hK' ⊢
      rw [h0, h1] at hK' ⊢
      clear hE h0 h1
      generalize crc (xs.take (4 + k)) = x1 at *
      generalize w4 (xs.drop (4 + k)) = x2 at *
      go_wp2_with fail
      exact hK' _ _ (Below.refl _ _) (fun _ _ => rfl)
  · intro us W hW hE
    obtain ⟨h29, h30, h31, h32, h33, h34, h35, h36, h37, -⟩ := hE
    simp only [List.map_cons, List.map_nil, fillT, Act.put, List.setIfInBounds_toArray, List.set_cons_zero, List.set_cons_succ] at h29 h30 h31 h32 h33 h34 h35 h36 h37 ⊢
    rw [h29, h30, h31, h32, h33, h34, h35, h36, h37]
    clear h29 h30 h31 h32 h33 h34 h35 h36 h37 hbh hbl hc
    have hgW : Below (w.heap.size + 1) (w.alloc En0) W := (hg : Below (w.heap.size + 1) (w.alloc En0) w1).trans ((undrew hW).mono (by have := hg.size; simp at this; omega))
    have hthW := hth W hgW
    have hbm := Lib.hid (htrm _ _ (HB1.out.below hW))
    have hBW := (below_al w En0).trans (hgW.mono (by omega))
    clear hW htrm hg HB1
    by_cases hcr : crc (xs.take (4 + k)) = w4 (xs.drop (4 + k))
    · have hb : (((crc (xs.take (4 + k)) : Nat) : Int) != ((w4 (xs.drop (4 + k)) : Nat) : Int)) = false := by simp [hcr]
      rw [hb]
      have hwl : w.heap.size < W.heap.size := Nat.lt_of_lt_of_le (by omega) hgW.size
      have hlm : ((xs.take (4 + k)).drop 4).length = k := hbm.out.len
      have hthw2 : ∀ (w2 : World) (x y z : Value), Below W.heap.size W w2 → (w2.alloc En0).there w2.heap.size 0 3 ∧ ((w2.alloc En0).setCells w2.heap.size 0 [x, y, z]).rangeAt w2.heap.size 0 [x, y, z] ∧ ((w2.alloc En0).setCells w2.heap.size 0 [x, y, z]).there w.heap.size 0 3 := fun w2 x y z h => by
        have h1 := hth w2 (hgW.trans (h.mono (by omega)))
        exact new3 (Nat.lt_of_lt_of_le hwl h.size) h1 x y z
      cases he : eDec ((xs.take (4 + k)).drop 4) with
      | error cd =>
        have hR2 : R = .error 272 := by rw [hR.out, if_neg (by simpa using hcr), he]
        have hcd := eDec_err he
        have hcd2 : ((cd : Int) != 0) = true := by simp; omega
        have hc56 := decodeEntry_no hbm.out (by omega) he hcd
        clear hb hR hcr hbm he
        subst hR2
        go_wp2_with (first | (go_at_call 56; go_must (refine hc56.mono ?_); rintro e w2 ⟨rfl, hB2⟩; obtain ⟨hthA, -, hthB⟩ := hthw2 w2 (.int .i64 0) (.string ByteArray.empty) (.slice none 0 0) hB2) | ((with_reducible refine store3 w2.heap.size 0 ByteArray.empty none 0 0 ?_ ?_ ?_ ?_); exact rfl; exact rfl; exact hthA) | ((with_reducible refine store3 w.heap.size 0 ByteArray.empty none 0 0 ?_ ?_ ?_ ?_); exact rfl; exact rfl; exact hthB))
        refine bodyPost_ret (results_cell3 rfl _ _ w.heap.size 0 [.int .i64 0, .string ByteArray.empty, .slice none 0 0] _ rfl (World.rangeAt_setCells_same _ _ _ _ hthB) Tryd.underlying25 rfl info25) rfl ?_
        refine ⟨rfl, setCells_below _ (Nat.le_refl _) _ _ _ (setCells_below _ (by have := hB2.size; omega) _ _ _ ((hBW.trans (hB2.mono (by omega))).alloc (by have := hB2.size; omega) _))⟩
      | ok x =>
        obtain ⟨E, l⟩ := x
        have hc56 := decodeEntry_yes hbm.out (by omega) he
        by_cases hl : l = []
        · have hR2 : R = .ok (E, k + 8) := by rw [hR.out, if_neg (by simpa using hcr), he]; simp [hl]
          have hqk : ∀ q : Nat, q ≤ k → ((xs.take (4 + k)).drop 4).drop q = l → ((q : Int) != (k : Int)) = false := fun q h1 h2 => by
            have h3 := congrArg List.length h2
            rw [List.length_drop, hlm, hl] at h3
            simp at h3 ⊢
            omega
          clear hb hR hcr hbm he
          subst hR2
          go_wp2_with (first | (go_at_call 56; go_must (refine hc56.mono ?_); rintro e w2 ⟨⟨q, v, hq1, hq2, rfl, A3, m3, c3, rfl, hbody⟩, hB2⟩; obtain ⟨hthA, hrgA, hthB⟩ := hthw2 w2 (.int .i64 E.kind) (.string (strOf E.key)) (.slice A3 m3 c3) hB2; have hqe := hqk q hq1 hq2) | ((with_reducible refine store3 w2.heap.size E.kind (strOf E.key) A3 m3 c3 ?_ ?_ ?_ ?_); exact rfl; exact rfl; exact hthA) | ((with_reducible refine load3 w2.heap.size E.kind (strOf E.key) A3 m3 c3 ?_ ?_ ?_); exact rfl; exact hrgA) | ((with_reducible refine store3 w.heap.size E.kind (strOf E.key) A3 m3 c3 ?_ ?_ ?_ ?_); exact rfl; exact rfl; exact hthB))
          refine bodyPost_ret (results_cell3 rfl _ _ w.heap.size 0 [.int .i64 E.kind, .string (strOf E.key), .slice A3 m3 c3] _ rfl (World.rangeAt_setCells_same _ _ _ _ hthB) Tryd.underlying25 rfl info25) rfl ?_
          have hs2 := hB2.size
          have k0 : w2.heap[w.heap.size]? = some En0 := (hB2.block _ hwl).trans ((hgW.block _ (by omega)).trans (heap_alloc_new w En0))
          have g1 := grown_sets w2.heap.size [.int .i64 E.kind, .string (strOf E.key), .slice A3 m3 c3] 0 (w2.alloc En0)
          have k1 := (grown_diff (b := 0) (i := w.heap.size) g1 (by omega) (by simp; omega)).trans (((below_al w2 En0).block _ (by omega)).trans k0)
          have b1 := bo_grown (hbody.below (below_al w2 En0)) g1 (heap_alloc_new w2 En0) (by decide)
          have b2 := bo_grown b1 (grown_sets w.heap.size [.int .i64 E.kind, .string (strOf E.key), .slice A3 m3 c3] 0 _) k1 (by decide)
          refine ⟨⟨_, ?_, A3, m3, c3, rfl, b2⟩, setCells_below _ (Nat.le_refl _) _ _ _ (setCells_below _ (by omega) _ _ _ ((hBW.trans (hB2.mono (by omega))).alloc (by omega) _))⟩
          show Ending.returned (.tuple #[.agg #[.int .i64 E.kind, .string (strOf E.key), .slice A3 m3 c3], .int .i64 (4 + (k : Int) + 4), .nilIface]) = _
          rw [show (4 + (k : Int) + 4) = ((k + 8 : Nat) : Int) by omega]
        · have hR2 : R = .error 272 := by rw [hR.out, if_neg (by simpa using hcr), he]; simp [hl]
          have hqk : ∀ q : Nat, q ≤ k → ((xs.take (4 + k)).drop 4).drop q = l → ((q : Int) != (k : Int)) = true := fun q h1 h2 => by
            have h3 := congrArg List.length h2
            rw [List.length_drop, hlm] at h3
            have h4 : 0 < l.length := List.length_pos_iff.2 hl
            simp
            omega
          clear hb hR hcr hbm he
          subst hR2
          go_wp2_with (first | (go_at_call 56; go_must (refine hc56.mono ?_); rintro e w2 ⟨⟨q, v, hq1, hq2, rfl, A3, m3, c3, rfl, hbody⟩, hB2⟩; obtain ⟨hthA, hrgA, hthB⟩ := hthw2 w2 (.int .i64 E.kind) (.string (strOf E.key)) (.slice A3 m3 c3) hB2; have hqe := hqk q hq1 hq2) | ((with_reducible refine store3 w2.heap.size E.kind (strOf E.key) A3 m3 c3 ?_ ?_ ?_ ?_); exact rfl; exact rfl; exact hthA) | ((with_reducible refine store3 w.heap.size 0 ByteArray.empty none 0 0 ?_ ?_ ?_ ?_); exact rfl; exact rfl; exact hthB))
          refine bodyPost_ret (results_cell3 rfl _ _ w.heap.size 0 [.int .i64 0, .string ByteArray.empty, .slice none 0 0] _ rfl (World.rangeAt_setCells_same _ _ _ _ hthB) Tryd.underlying25 rfl info25) rfl ?_
          refine ⟨rfl, setCells_below _ (Nat.le_refl _) _ _ _ (setCells_below _ (by have := hB2.size; omega) _ _ _ ((hBW.trans (hB2.mono (by omega))).alloc (by have := hB2.size; omega) _))⟩
    · have hb : (((crc (xs.take (4 + k)) : Nat) : Int) != ((w4 (xs.drop (4 + k)) : Nat) : Int)) = true := by simp; omega
      have hR2 : R = .error 270 := by rw [hR.out, if_pos hcr]
      rw [hb]
      clear hb hR hcr hbm
      subst hR2
      go_wp2_with ((with_reducible refine store3 w.heap.size 0 ByteArray.empty none 0 0 ?_ ?_ ?_ ?_); exact rfl; exact rfl; exact hthW)
      refine bodyPost_ret (results_cell3 rfl _ _ w.heap.size 0 [.int .i64 0, .string ByteArray.empty, .slice none 0 0] _ rfl (World.rangeAt_setCells_same _ _ _ _ hthW) Tryd.underlying25 rfl info25) rfl ?_
      exact ⟨rfl, setCells_below _ (Nat.le_refl _) _ _ _ hBW⟩

theorem first_ok {A : Option Addr} {n c : Nat} {xs : List UInt8} {w : World} (hb : Bs w A n c xs) (hn : n ≤ 1000000000) : Calls Tryd.prog 43 #[.slice A n c] w (FPost xs w (fDec xs)) := by
  have hl := hb.len
  by_cases h4 : n < 4
  · have : fDec xs = .error 271 := by unfold fDec; rw [if_pos (by omega)]
    rw [this]
    exact first_short h4
  · by_cases h8 : n < w4 xs + 8
    · have : fDec xs = .error 271 := by unfold fDec; rw [if_neg (by omega), if_pos (by omega)]
      rw [this]
      exact first_cut hb hn (by omega) h8
    · exact first_long hb hn (by omega)
end Go.Proofs.YtcohgkiloaapcaaDoor

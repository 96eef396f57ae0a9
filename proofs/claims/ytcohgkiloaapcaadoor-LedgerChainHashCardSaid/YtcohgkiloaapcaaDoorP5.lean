/- The last stage of the law LedgerChainHash's walk. PRINTED BY gen_tail.py. -/
import Derived.Test.YtcohgkiloaapcaaDoorP3
import Derived.StillTailTactics
namespace Go.Proofs.YtcohgkiloaapcaaDoor
open Go.RowKit

theorem add1 (k : Nat) (hk : k ≤ 1000) (W : World) : (binOp .add 3 (.int .i64 (k : Nat)) (.int .i64 1)).run Tryd.prog W = .ok (.int .i64 ((k : Int) + 1)) W := by
  have h : IntKind.i64.wrap ((k : Int) + 1) = (k : Int) + 1 := IntWalk.i64_in _ (by omega)
  simp [binOp, Op.intArith, h, go_sem]
/-- What the operations of region 15 yield. -/
def chD15 : List Nat := [85, 86, 87, 88, 89, 90, 91, 92, 93, 94, 95, 6]
def chPhi15 (Ao A1 A7 : Option Addr) (m c1 k co H1 H2 : Nat) (i : Nat) (v : Value) (W : World) : Prop := (List.getD (
  (fun v _ => v = .slice Ao (k + 1) co) ::
  (fun v _ => v = .int .u32 (H2 : Nat)) ::
  (fun v _ => v = .slice A1 m c1) ::
  (fun v _ => v = .int .i64 (k : Nat)) ::
  (fun v _ => v = .int .i64 ((k : Int) + 1)) ::
  (fun v _ => v = .slice A7 (k + 1) c1) ::
  (fun v _ => v = .int .u32 (H1 : Nat)) ::
  (fun v _ => v = .bool true) ::
  (fun v _ => v = .bool true) ::
  (fun v _ => v = .bool true) ::
  (fun v _ => v = .bool true) ::
  (fun v _ => v = .bool true) ::
  []) i (fun _ _ => True)) v W

/-- Entries of a row of one's own, one of them replaced. -/
theorem es_set {w0 w : World} {g c n k : Nat} {ys : List Rec} {y' : Rec} (hown : w.ownsRow w0.heap.size 25 3 (.slice (some ⟨g, 0, none⟩) n c) n (rowsOf ys)) (hn : ys.length = n) (hk : k < n) (hbd : ∀ y, y ∈ ys.set k y' → Bs (w.setCells g (k * 3) (newE y')) y.A y.m y.c y.E.body) :
    Es (w.setCells g (k * 3) (newE y')) (some ⟨g, 0, none⟩) n c (ys.set k y') := by
  obtain ⟨A', c', hv, h1, h2⟩ := own_shape hown
  injection hv with _ _ hc
  subst hc
  have hrd := Rd.own hown
  refine ⟨by rw [List.length_set]; exact hn, h1, by simpa [maxLen] using h2, fun _ => ⟨g, 0, rfl, fun j u hj => ?_⟩, hbd⟩
  obtain ⟨b, o, e, hcell⟩ := hrd (by rw [rowsOf_length]; omega)
  injection e with e
  injection e with e1 e2
  subst e1 e2
  have hjl : j < n * 3 := by
    have := (List.getElem?_eq_some_iff.1 hj).1
    rwa [rowsOf_length, List.length_set, hn] at this
  have hget := rowsOf_get (ys.set k y') (j / 3) (by rw [List.length_set]; omega) (j % 3) (by omega)
  rw [show 3 * (j / 3) + j % 3 = j by omega, hj] at hget
  by_cases hjk : j / 3 = k
  · have hin := World.cell?_setCells_in g (newE y') (k * 3) w (fun t ht => by
      have ht3 : t < 3 := by simpa [newE] using ht
      have hh := rowsOf_get ys k (by omega) t ht3
      have := hcell (3 * k + t) ((newE ys[k])[t]'(by simpa [newE] using ht3)) (by rw [hh]; simp)
      rw [Nat.zero_add] at this
      rw [show k * 3 + t = 3 * k + t by omega, this]
      rfl) (j % 3) (by simp [newE]; omega)
    rw [Nat.zero_add, show j = k * 3 + j % 3 by omega, hin]
    have hse : (ys.set k y')[j / 3]'(by rw [List.length_set]; omega) = y' := by
      simp only [hjk, List.getElem_set_self]
    rw [hse] at hget
    rw [List.getElem?_eq_getElem (by simp [newE]; omega)] at hget
    exact hget.symm
  · have hout := World.cell?_setCells_out g (newE y') (k * 3) w ⟨g, 0 + j, none⟩ (fun _ _ => by
      have hl : (newE y').length = 3 := rfl
      rw [hl]
      show 0 + j < k * 3 ∨ k * 3 + 3 ≤ 0 + j
      omega)
    rw [hout]
    refine hcell j u ?_
    have hse : (ys.set k y')[j / 3]'(by rw [List.length_set]; omega) = ys[j / 3]'(by omega) := List.getElem_set_ne (fun e => hjk e.symm) _
    rw [hse] at hget
    have hg2 := rowsOf_get ys (j / 3) (by omega) (j % 3) (by omega)
    rw [show 3 * (j / 3) + j % 3 = j by omega] at hg2
    rw [hg2, ← hget]
theorem own_there {w : World} {base n c k : Nat} {g : Nat} {ys : List Rec} (h : w.ownsRow base 25 3 (.slice (some ⟨g, 0, none⟩) n c) n (rowsOf ys)) (hn : ys.length = n) (hk : k < n) : w.there g (k * 3) 3 := by
  intro t ht
  obtain ⟨b, o, e, hcell⟩ := Rd.own h (by rw [rowsOf_length]; omega)
  injection e with e
  injection e with e1 e2
  subst e1 e2
  have hh := rowsOf_get ys k (by omega) t ht
  have := hcell (3 * k + t) ((newE ys[k])[t]'(by simpa [newE] using ht)) (by rw [hh]; simp)
  rw [Nat.zero_add, show 3 * k + t = k * 3 + t by omega] at this
  exact ⟨by rw [this]; rfl, (own_free h).1⟩

theorem below_cells {B b : Nat} {a : World} (hb : B ≤ b) : ∀ (vs : List Value) (o : Nat) (w : World), Below B a w → Below B a (w.setCells b o vs)
  | [], _, _, h => h
  | v :: vs, o, w, h => below_cells hb vs (o + 1) _ (h.setCell (p := ⟨b, o, none⟩) hb v)
theorem Bs.out {w : World} {b o n c : Nat} {xs : List UInt8} (h : Bs w (some ⟨b, o, none⟩) n c xs) {g k : Nat} (hg : b ≠ g) (vs : List Value) : Bs (w.setCells g k vs) (some ⟨b, o, none⟩) n c xs := by
  refine ⟨h.len, h.le, h.max, fun hp => ?_⟩
  obtain ⟨b', o', e, hc⟩ := h.rd hp
  injection e with e
  injection e with e1 e2
  subst e1 e2
  exact ⟨b, o, rfl, fun j u hj => by rw [World.cell?_setCells_out g vs k w ⟨b, o + j, none⟩ (fun e _ => absurd e hg)]; exact hc j u hj⟩
theorem own_cell0 {w : World} {base n c k : Nat} {g : Nat} {ys : List Rec} (h : w.ownsRow base 25 3 (.slice (some ⟨g, 0, none⟩) n c) n (rowsOf ys)) (hn : ys.length = n) (hk : k < n) : w.cell? ⟨g, k * 3, none⟩ = some (.int .i64 (ys[k]'(by omega)).E.kind) := by
  obtain ⟨b, o, e, hcell⟩ := Rd.own h (by rw [rowsOf_length]; omega)
  injection e with e
  injection e with e1 e2
  subst e1 e2
  have hh := rowsOf_get ys k (by omega) 0 (by omega)
  have := hcell (3 * k + 0) ((newE ys[k])[0]'(by simp [newE])) (by rw [hh]; simp)
  rw [Nat.zero_add, show 3 * k + 0 = k * 3 by omega] at this
  exact this
theorem ve_set {e : En} (h : VE e) (i : Nat) (x : UInt8) : VE { e with body := e.body.set i x } := by
  show vldE e.kind e.key.length (e.body.set i x).length = true
  rw [List.length_set]
  exact h
noncomputable def sC (k : Nat) : Code := sufN k ((Tryd.f9.body).getD .skip)

set_option maxRecDepth 20000 in
set_option maxHeartbeats 4000000 in
theorem chain_tail (w w2 W9 : World) (Q : Exit → Act → World → Prop) (A A1 : Option Addr) (n c m c1 k co b e g : Nat) (z1 : Int) (u : UInt8) (ys : List Rec) (y : Rec) (vb u3 u5 u12 u13 u14 u15 u16 u17 u18 u19 u20 u21 u22 u23 u24 u25 u26 u27 u28 u29 u30 u31 u32 u33 u34 u35 u36 u37 u38 u39 u40 u41 u42 u43 u44 u45 u46 u47 u48 u49 u50 u51 u52 u53 u54 u55 u56 u57 u58 u59 u60 u61 u62 u63 u64 u65 u66 u67 u68 u69 u70 u71 u72 u73 u74 u75 u76 u77 u78 u79 u80 u81 u82 u83 u84 u85 u86 u87 u88 u89 u90 u91 u92 u93 u94 u95 : Value)
    (hkm : k < m) (hlen : ys.length = m) (hy : ys[k]'(by omega) = y) (hk2 : k ≤ 1000) (hz1 : 0 ≤ z1) (hz11 : z1 < 256) (hu : u.toNat ≠ 0)
    (hve : ∀ y, y ∈ ys → VE y.E) (hE2 : Es w2 A1 m c1 ys) (hB2 : Below w2.heap.size w2 W9) (hww : Below w.heap.size w w2)
    (hown : W9.ownsRow w2.heap.size 25 3 (.slice (some ⟨g, 0, none⟩) (k + 1) co) (k + 1) (rowsOf (ys.take (k + 1))))
    (hm0 : y.m ≠ 0) (hml : y.m ≤ 20000)
    (gc1 : W9.cell? ⟨b, 1, none⟩ = some (.int .u8 z1))
    (g0 : W9.cell? ⟨e, 0, none⟩ = some (.int .i64 y.E.kind)) (g1 : W9.cell? ⟨e, 1, none⟩ = some (.string (strOf y.E.key))) (g2 : W9.cell? ⟨e, 2, none⟩ = some (.slice y.A y.m y.c))
    (hge : g ≠ e) (hgb : g ≠ b)
    (hq0 : ∀ (a' : Act) (W' : World), a'.tmps.getD 6 undef = .bool true → a'.defers = [] → Below w.heap.size w W' → Q .ret a' W')
    (K : Act → World → Prop) (hK : ∀ (a' : Act) (W' : World), (sC 10).wp Tryd.prog Q a' W' → K a' W') :
    (headC (sC 9)).wp Tryd.prog (Exit.then K Q) ⟨((.slice A n c) :: vb :: (.int .u8 (u.toNat : Int)) :: u3 :: (.pointer (some ⟨b, 0, none⟩)) :: u5 :: (.bool false) :: (.bool true) :: (.slice A1 m c1) :: (.int .i64 (k : Int)) :: (.slice (some ⟨g, 0, none⟩) (k + 1) co) :: (.pointer (some ⟨e, 0, none⟩)) :: u12 :: u13 :: u14 :: u15 :: u16 :: u17 :: u18 :: u19 :: u20 :: u21 :: u22 :: u23 :: u24 :: u25 :: u26 :: u27 :: u28 :: u29 :: u30 :: u31 :: u32 :: u33 :: u34 :: u35 :: u36 :: u37 :: u38 :: u39 :: u40 :: u41 :: u42 :: u43 :: u44 :: u45 :: u46 :: u47 :: u48 :: u49 :: u50 :: u51 :: u52 :: u53 :: u54 :: u55 :: u56 :: u57 :: u58 :: u59 :: u60 :: u61 :: u62 :: u63 :: u64 :: u65 :: u66 :: u67 :: u68 :: u69 :: u70 :: u71 :: u72 :: u73 :: u74 :: u75 :: u76 :: u77 :: u78 :: u79 :: u80 :: u81 :: u82 :: u83 :: u84 :: u85 :: u86 :: u87 :: u88 :: u89 :: u90 :: u91 :: u92 :: u93 :: u94 :: u95 :: [] : List Value).toArray, []⟩ W9 := by
  conv => arg 2; whnf
  conv at hK => enter [a', W', 1, 2]; whnf
  obtain ⟨A7, hrun7, htr7⟩ := cut_hE A1 m c1 (k + 1) ((k : Int) + 1) (by omega) (by omega) hE2.le
  have hcut7 := sliceAt_of Tryd.underlying23 hrun7
  clear hrun7
  obtain ⟨q, hqm, hq⟩ : ∃ q : Nat, q < y.m ∧ z1 % (y.m : Int) = q := ⟨(z1 % (y.m : Int)).toNat, by have := Int.emod_lt_of_pos z1 (show (0 : Int) < (y.m : Int) by omega); omega, by have := Int.emod_nonneg z1 (show (y.m : Int) ≠ 0 by omega); omega⟩
  have hqi : (q : Int) < y.m := by omega
  have hqt : (IntKind.i64.wrap z1).tmod (y.m : Int) = q := by
    rw [show IntKind.i64.wrap z1 = z1 from IntWalk.i64_in _ (by omega), Int.tmod_eq_emod_of_nonneg hz1, hq]
  have hne2 : ((y.m : Int) == 0) = false := by simp; omega
  have hbk := (hE2.bd y (hy ▸ List.getElem_mem _)).below hB2
  have hbl := Lib.hid hbk.len
  have hrd9 := hbk.rd
  have hB0 := below_al W9 (.cells #[] 5)
  have hoE := own_empty W9 5 1
  have f2b : (W9.alloc (.cells #[] 5)).cell? ⟨e, 2, none⟩ = some (.slice y.A y.m y.c) := cell_step g2 hB0
  have HVE := Lib.hid hve
  have HY := Lib.hid hy
  have HOW := Lib.hid hown
  clear hve hy hown hbk
  go_wp2_with (at_builtin; refine wpList_of_append rfl _ _ 22 rfl rfl rfl (run_own W9 _ 22 22 5 (.int .u8 0) 1 1 Tryd.underlying22 info5 rfl (by decide) (by decide) _ _ _ hoE hB0 y.A y.m y.c (bys y.E.body) (by rw [bys_length, hbl.out, Nat.mul_one]) (hrd9.below hB0) (bys_one _) (by omega)) ?_)
  intro vB w9 hownB hBB
  have hownB : w9.ownsRow W9.heap.size 5 1 vB y.m (bys y.E.body) := by simpa using hownB
  obtain ⟨Ab, cb, rfl, -, -⟩ := own_shape hownB
  have hbB := Bs.own hownB
  obtain ⟨gb, ob, rfl, hcb⟩ := hbB.at_ (by omega)
  have hql : q < y.E.body.length := by rw [hbl.out]; exact hqm
  have hcq := hcb q hql
  generalize hx8 : y.E.body[q] = x8 at *
  obtain ⟨hfz, hgbb, -⟩ := own_free (k := ob + q) hownB
  have hxu := xor_u8 x8 u
  have hc1 := cell_step gc1 hBB
  have f0 := cell_step g0 hBB
  have f1 := cell_step g1 hBB
  clear hcb hoE hB0 hrd9 f2b g2
  go_upto_region 13 with (fail)
  go_still_tail 19, (by kernel_rfl)
  go_upto_region 14 with (fail)
  have hxn : ((x8.toNat ^^^ u.toNat : Nat) : Int) = ((x8 ^^^ u).toNat : Int) := by rw [UInt8.toNat_xor]
  rw [hxn]
  obtain ⟨w10, hw10⟩ : ∃ w10, w10 = (w9.setCell ⟨gb, ob + q, none⟩ (.int .u8 ((x8 ^^^ u).toNat : Int))).drew := ⟨_, rfl⟩
  have hbx : Bs w10 (some ⟨gb, ob, none⟩) y.m cb (y.E.body.set q (x8 ^^^ u)) := by rw [hw10]; exact (hbB.set q hqm (x8 ^^^ u)).below (below_drewN _ 1)
  have hB10 : Below W9.heap.size W9 w10 := by rw [hw10]; exact below_then (hBB.setCell (p := ⟨gb, ob + q, none⟩) hgbb _) (below_drewN _ 1)
  rw [← hw10]
  clear hw10 hc1 hcq hbB hownB hfz hxu f0 f1
  have f0 := cell_step g0 hB10
  have f1 := cell_step g1 hB10
  have hki : (k : Int) < (k : Int) + 1 := by omega
  have htl : (ys.take (k + 1)).length = k + 1 := by rw [List.length_take]; omega
  have hown10 := own_below HOW.out hB10
  have hth := own_there (k := k) hown10 htl (by omega)
  have HO10 := Lib.hid hown10
  have HX := Lib.hid hbx
  have HT := Lib.hid htl
  clear hown10 hbx htl
  go_wp2_with (refine wpList_store_mid rfl 25 _ _ rfl g (k * 3) #[.int .i64 y.E.kind, .string (strOf y.E.key), .slice (some ⟨gb, ob, none⟩) y.m cb] rfl rfl hth info25 (one3 _ _ _) ?_)
  simp only [Act.put]
  obtain ⟨y', hy'⟩ : ∃ y' : Rec, y' = ⟨{ y.E with body := y.E.body.set q (x8 ^^^ u) }, some ⟨gb, ob, none⟩, y.m, cb, y.off, y.err⟩ := ⟨_, rfl⟩
  have hn' : newE y' = [.int .i64 y.E.kind, .string (strOf y.E.key), .slice (some ⟨gb, ob, none⟩) y.m cb] := by rw [hy']; rfl
  obtain ⟨w11, hw11⟩ : ∃ w11, w11 = w10.setCells g (k * 3) [.int .i64 y.E.kind, .string (strOf y.E.key), .slice (some ⟨gb, ob, none⟩) y.m cb] := ⟨_, rfl⟩
  obtain ⟨-, hgs, -⟩ := own_free (k := 0) HO10.out
  have hgl : g < W9.heap.size := World.block_lt_of_cell? W9 ⟨g, k * 3, none⟩ (own_cell0 HOW.out HT.out (by omega))
  have hB11 : Below w2.heap.size w2 w11 := by rw [hw11]; exact below_cells hgs _ _ _ (hB2.trans (hB10.mono hB2.size))
  have hE2 : Es w11 A1 m c1 ys := hE2.below hB11
  have hl0 : ys.take (k + 1) = ys.take k ++ [y] := by rw [← HY.out]; exact (List.take_append_getElem (by omega)).symm
  have hlk : (ys.take k).length = k := by rw [List.length_take]; omega
  have hl1 : (ys.take (k + 1)).set k y' = ys.take k ++ [y'] := by
    rw [hl0, List.set_append_right _ _ (by omega), hlk, Nat.sub_self]; rfl
  have hEo : Es w11 (some ⟨g, 0, none⟩) (k + 1) co (ys.take k ++ [y']) := by
    rw [← hl1, hw11, ← hn']
    refine es_set (w0 := w2) HO10.out HT.out (by omega) (fun y0 hy0 => ?_)
    rcases List.mem_or_eq_of_mem_set hy0 with h | h
    · rw [hn', ← hw11]; exact hE2.bd y0 (List.mem_of_mem_take h)
    · subst h
      rw [hy']
      exact HX.out.out (by omega) _
  have hvy : VE y.E := HVE.out y (HY.out ▸ List.getElem_mem _)
  have hvo : ∀ y0, y0 ∈ ys.take k ++ [y'] → VE y0.E := fun y0 h => by
    rcases List.mem_append.1 h with h | h
    · exact HVE.out y0 (List.mem_of_mem_take h)
    · obtain rfl := List.mem_singleton.1 h
      rw [hy']
      exact ve_set hvy _ _
  obtain ⟨H1, hH1⟩ : ∃ H, H = chainH ((ys.take (k + 1)).map (·.E)) := ⟨_, rfl⟩
  obtain ⟨H2, hH2⟩ : ∃ H, H = chainH ((ys.take k ++ [y']).map (·.E)) := ⟨_, rfl⟩
  have hne15 : ((H2 : Int) != (H1 : Int)) = true := by
    have h := chain_changed ((ys.take k).map (·.E)) y.E q (x8 ^^^ u) hql (by
      rw [List.getD_eq_getElem?_getD, List.getElem?_eq_getElem hql, Option.getD_some, hx8]
      exact xor_ne hu)
    rw [hl0, List.map_append] at hH1
    rw [List.map_append, hy'] at hH2
    have h2 : H2 ≠ H1 := by rw [hH1, hH2]; exact h
    simp; omega
  have hve := HVE.out
  obtain ⟨Ao, hAo⟩ : ∃ Ao : Option Addr, Ao = some ⟨g, 0, none⟩ := ⟨_, rfl⟩
  rw [← hw11, ← hAo]
  rw [← hAo] at hEo
  refine wp_region_mono (by kernel_rfl)
    ((85, chD15.erase 85, []) :: (86, chD15.erase 86, [(0, 85)]) :: (87, chD15.erase 87, []) :: (88, chD15.erase 88, []) :: (89, chD15.erase 89, [(3, 88)]) :: (90, chD15.erase 90, [(2, 87), (4, 89)]) :: (91, chD15.erase 91, [(1, 86), (5, 90)]) :: (92, chD15.erase 92, [(1, 86), (6, 91)]) :: (93, chD15.erase 93, [(6, 91), (7, 92)]) :: (94, chD15.erase 94, [(8, 93)]) :: (95, chD15.erase 95, [(8, 93), (9, 94)]) :: (6, chD15.erase 6, [(0, 85), (1, 86), (2, 87), (3, 88), (4, 89), (5, 90), (6, 91), (7, 92), (8, 93), (9, 94), (10, 95)]) :: [])
    (by kernel_rfl) (chPhi15 Ao A1 A7 m c1 k co H1 H2) (by simp) ⟨?_, ?_, ?_, ?_, ?_, ?_, ?_, ?_, ?_, ?_, ?_, ?_, trivial⟩ ?_
  · intro us W hW hE
    intro K hK
    with_reducible refine stepV0 (.slice Ao (k + 1) co) (W) ?_ ?_ ?_
    · rfl
    · exact (ex_move rfl (ev_old (by decide) rfl))
    · exact hK _ _ (Below.refl _ _) (fun W'' h => rfl)
  · intro us W hW hE
    have e0 : us 85 = .slice Ao (k + 1) co := hE.1
    intro K hK
    with_reducible refine stepC0 (22) (#[.slice Ao (k + 1) co]) ?_ ?_ ?_
    · rfl
    · exact (ex_fn1 rfl rfl (ev_us (N := 96) rfl (by decide) e0) (cf22 _ _))
    · refine Calls.mono (chain_ok Ao (k + 1) co (ys.take k ++ [y']) W (hEo.below (undrew hW)) (by omega) hvo H2 hH2) ?_
      rintro e w2 ⟨rfl, hB2⟩
      exact ⟨_, rfl, hK _ _ hB2 (fun W'' h => rfl)⟩
  · intro us W hW hE
    intro K hK
    with_reducible refine stepV0 (.slice A1 m c1) (W) ?_ ?_ ?_
    · rfl
    · exact (ex_move rfl (ev_old (by decide) rfl))
    · exact hK _ _ (Below.refl _ _) (fun W'' h => rfl)
  · intro us W hW hE
    intro K hK
    with_reducible refine stepV0 (.int .i64 (k : Nat)) (W) ?_ ?_ ?_
    · rfl
    · exact (ex_move rfl (ev_old (by decide) rfl))
    · exact hK _ _ (Below.refl _ _) (fun W'' h => rfl)
  · intro us W hW hE
    have e3 : us 88 = .int .i64 (k : Nat) := hE.1
    intro K hK
    with_reducible refine stepV0 (.int .i64 ((k : Int) + 1)) (W) ?_ ?_ ?_
    · rfl
    · exact ex_bin rfl (ev_us (N := 96) rfl (by decide) e3) rfl guard_int (add1 k hk2 W)
    · exact hK _ _ (Below.refl _ _) (fun W'' h => rfl)
  · intro us W hW hE
    have e2 : us 87 = .slice A1 m c1 := hE.1
    have e4 : us 89 = .int .i64 ((k : Int) + 1) := hE.2.1
    intro K hK
    with_reducible refine stepV0 (.slice A7 (k + 1) c1) (W) ?_ ?_ ?_
    · rfl
    · exact ex_sliceH rfl (ev_us (N := 96) rfl (by decide) e2) (ev_us (N := 96) rfl (by decide) e4) (hcut7 W)
    · exact hK _ _ (Below.refl _ _) (fun W'' h => rfl)
  · intro us W hW hE
    have e5 : us 90 = .slice A7 (k + 1) c1 := hE.2.1
    intro K hK
    with_reducible refine stepC0 (22) (#[.slice A7 (k + 1) c1]) ?_ ?_ ?_
    · rfl
    · exact (ex_fn1 rfl rfl (ev_us (N := 96) rfl (by decide) e5) (cf22 _ _))
    · refine Calls.mono (chain_ok A7 (k + 1) c1 (ys.take (k + 1)) W (htr7 _ _ (hE2.below (undrew hW))) (by omega) (fun y hy => hve y (List.mem_of_mem_take hy)) H1 hH1) ?_
      rintro e w2 ⟨rfl, hB2⟩
      exact ⟨_, rfl, hK _ _ hB2 (fun W'' h => rfl)⟩
  · intro us W hW hE
    have e1 : us 86 = .int .u32 (H2 : Nat) := hE.1
    have e6 : us 91 = .int .u32 (H1 : Nat) := hE.2.1
    intro K hK
    with_reducible refine stepV0 (.bool true) (W) ?_ ?_ ?_
    · rfl
    · exact ex_cmp rfl (ev_us (N := 96) rfl (by decide) e1) (ev_us (N := 96) rfl (by decide) e6) (neq_int hne15)
    · exact hK _ _ (Below.refl _ _) (fun W'' h => rfl)
  · intro us W hW hE
    have e7 : us 92 = .bool true := hE.2.1
    intro K hK
    with_reducible refine stepV0 (.bool true) (W) ?_ ?_ ?_
    · rfl
    · exact (ex_move rfl (ev_us (N := 96) rfl (by decide) e7))
    · exact hK _ _ (Below.refl _ _) (fun W'' h => rfl)
  · intro us W hW hE
    have e8 : us 93 = .bool true := hE.1
    intro K hK
    with_reducible refine stepV1 (.bool true) (W) 8 93 true (N := 96) rfl e8 ?_ ?_ ?_ ?_ ?_
    · rfl
    · kernel_rfl
    · decide
    · exact (ex_move rfl (ev_old (by decide) rfl))
    · exact hK _ _ (Below.refl _ _) (fun W'' h => rfl)
  · intro us W hW hE
    have e8 : us 93 = .bool true := hE.1
    have e9 : us 94 = .bool true := hE.2.1
    intro K hK
    with_reducible refine stepV0 (.bool true) (W) ?_ ?_ ?_
    · rfl
    · exact (ex_pick_t rfl (ev_us (N := 96) rfl (by decide) e8) (ev_us (N := 96) rfl (by decide) e9))
    · exact hK _ _ (Below.refl _ _) (fun W'' h => rfl)
  · intro us W hW hE
    have e10 : us 95 = .bool true := hE.2.2.2.2.2.2.2.2.2.2.1
    intro K hK
    with_reducible refine stepV0 (.bool true) (W) ?_ ?_ ?_
    · rfl
    · exact (ex_assign rfl (ev_us (N := 96) rfl (by decide) e10))
    · exact hK _ _ (Below.refl _ _) (fun W'' h => rfl)
  · intro us W hW hE
    have h6 : us 6 = .bool true := AllF.get hE 11 (x := (6, chD15.erase 6, [(0, 85), (1, 86), (2, 87), (3, 88), (4, 89), (5, 90), (6, 91), (7, 92), (8, 93), (9, 94), (10, 95)])) (by kernel_rfl)
    have hBW := undrew hW
    simp only [List.map_cons, List.map_nil, chD15, List.erase_cons, fillT, Act.put, List.setIfInBounds_toArray, List.set_cons_zero, List.set_cons_succ]
    rw [h6]
    clear h6 hE
    go_wp2_with fail
    exact hq0 _ _ rfl rfl (below_then hww (hB11.trans (hBW.mono hB11.size)))
end Go.Proofs.YtcohgkiloaapcaaDoor

/- Contracts: the tail of the laws' sanity. PRINTED BY gen_sanity.py. -/
import Derived.Test.YtcohgkiloaapcaaDoorK0
import Derived.Test.YtcohgkiloaapcaaDoorR3
set_option maxRecDepth 10000
namespace Go.Proofs.YtcohgkiloaapcaaDoor
open Go.RowKit

theorem cf_enter {P : Program} {f : FuncId} {fn : Func} {c : Code} (hf : P.funcs[f]? = some fn) (hname : (fn.name == "runtime.NumGoroutine") = false) (hb : fn.body = some c) (args : Array Value) (w : World) :
    (callFunc f args).run P w = .ok (.enter f args) w := by
  have h1 : fn.name ≠ "runtime.NumGoroutine" := by simpa using hname
  simp [callFunc, hf, h1, hb]
theorem cf14 (args : Array Value) (w : World) : (callFunc 14 args).run Tryd.prog w = .ok (.enter 14 args) w := cf_enter Tryd.func14 (by kernel_rfl) rfl args w
theorem cf16 (args : Array Value) (w : World) : (callFunc 16 args).run Tryd.prog w = .ok (.enter 16 args) w := cf_enter Tryd.func16 (by kernel_rfl) rfl args w
theorem cf18 (args : Array Value) (w : World) : (callFunc 18 args).run Tryd.prog w = .ok (.enter 18 args) w := cf_enter Tryd.func18 (by kernel_rfl) rfl args w
theorem cf20 (args : Array Value) (w : World) : (callFunc 20 args).run Tryd.prog w = .ok (.enter 20 args) w := cf_enter Tryd.func20 (by kernel_rfl) rfl args w
theorem cf22 (args : Array Value) (w : World) : (callFunc 22 args).run Tryd.prog w = .ok (.enter 22 args) w := cf_enter Tryd.func22 (by kernel_rfl) rfl args w
theorem cf23 (args : Array Value) (w : World) : (callFunc 23 args).run Tryd.prog w = .ok (.enter 23 args) w := cf_enter Tryd.func23 (by kernel_rfl) rfl args w
theorem cf26 (args : Array Value) (w : World) : (callFunc 26 args).run Tryd.prog w = .ok (.enter 26 args) w := cf_enter Tryd.func26 (by kernel_rfl) rfl args w

theorem bs_block {W : World} {b : Nat} {cs : Array Value} {t : TypeId} {fr : Nat × Nat} (xs : List UInt8) (c : Nat) (h : W.heap[b]? = some (.cells cs t fr)) (hx : cs.toList = bys xs) (hc : xs.length ≤ c) (hm : c ≤ 9223372036854775807) : Bs W (some ⟨b, 0, none⟩) xs.length c xs := by
  refine ⟨rfl, hc, hm, fun _ => ⟨b, 0, rfl, fun j u hj => ?_⟩⟩
  rw [Nat.zero_add, cell_of_row W b j cs t fr h]
  rw [← hx] at hj
  simpa using hj
def nine9 : Array (Nat × Value) := #[(0, .int .u8 5), (1, .int .u8 0), (2, .int .u8 0), (3, .int .u8 0), (4, .int .u8 2), (5, .int .u8 2), (6, .int .u8 97), (7, .int .u8 2), (8, .int .u8 98)]
theorem bs9 (W : World) : (Instr.buildSlice 22 9 nine9).run Tryd.prog W = .ok (.slice (some ⟨W.heap.size, 0, none⟩) 9 9) (W.alloc (.cells #[.int .u8 5, .int .u8 0, .int .u8 0, .int .u8 0, .int .u8 2, .int .u8 2, .int .u8 97, .int .u8 2, .int .u8 98] 5)) := by kernel_rfl
theorem sliceAt_of {t e : TypeId} {x : Value} {hi : Value} {v : Value} (ht : Tryd.prog.underlying t = some (.slice e)) (h : ∀ W : World, (Instr.slice t x none (some hi) none).run Tryd.prog W = .ok v W) (W : World) : (Instr.sliceAt t x none (some hi) none).run Tryd.prog W = .ok v W := by
  unfold Instr.sliceAt
  simp only [Sem.run_bind, run_underlying ht, Result.andThen_ok]
  exact h W
theorem load25 (b o : Nat) (y : Rec) (W : World) (h : W.rangeAt b o (newE y)) : (Instr.loadAt 25 (.pointer (some ⟨b, o, none⟩))).run Tryd.prog W = .ok (.agg #[.int .i64 y.E.kind, .string (strOf y.E.key), .slice y.A y.m y.c]) W := by
  unfold Instr.loadAt
  have hl := run_loadVar_mid (P := Tryd.prog) W b o 25 (newE y) _ h Tryd.underlying25 rfl info25
  rw [Sem.run_bind]
  exact hl
theorem ix0 (t e : TypeId) {u : Value} {s b : Nat} (ht : Tryd.prog.underlying t = some (.slice e)) (hinfo : (Tryd.prog.info? e).map (fun i => (i.zero, i.size, i.bytes)) = some (some u, s, b)) (g o n c : Nat) (hn : 0 < n) (W : World) : (Instr.indexAt t (.slice (some ⟨g, o, none⟩) n c) (.int .i64 0)).run Tryd.prog W = .ok (.pointer (some ⟨g, o, none⟩)) W := by
  obtain ⟨i, hi0, _, _, _⟩ := info_parts hinfo
  unfold Instr.indexAt
  simp [asIntOf, Sem.run_bind, run_underlying ht, sizeOf, typeInfo, hi0, hn, Result.andThen, Addr.add_lit]

/-- The temporaries that the region writes. -/
def sanD : List Nat := List.range' 82 100 ++ [0]
def sufN : Nat → Code → Code
  | 0, c => c
  | k + 1, .seq _ b => sufN k b
  | _, c => c
noncomputable def sT (k : Nat) : Code := sufN k ((Tryd.f11.body).getD .skip)
def headC : Code → Code
  | .seq a _ => a
  | c => c

set_option maxRecDepth 100000 in
/-- What the region's operations yield. -/
def sanPhi (b0 b1 : Nat) (A1 A2 A4 A6 A7 A8 A9 A51 : Option Addr) (g5 o5 c1 c2 c4 c5 c6 c7 c8 H1 H2 : Nat) (y : Rec) (i : Nat) (v : Value) (W : World) : Prop := (List.getD (
  (fun v _ => v = .int .i64 0) ::
  (fun v _ => v = .bool true) ::
  (fun v _ => v = .bool true) ::
  (fun v _ => v = .int .i64 1) ::
  (fun v _ => v = .bool true) ::
  (fun v _ => v = .bool true) ::
  (fun v _ => v = .bool true) ::
  (fun v _ => v = .int .i64 0) ::
  (fun v _ => v = .bool true) ::
  (fun v _ => v = .bool true) ::
  (fun v _ => v = .bool true) ::
  (fun v _ => v = .slice A1 13 c1) ::
  (fun v _ => v = .slice A9 9 c1) ::
  (fun v W => ∃ g, v = .slice (some ⟨g, 0, none⟩) 9 9 ∧ Bs W (some ⟨g, 0, none⟩) 9 9 [5, 0, 0, 0, 2, 2, 97, 2, 98]) ::
  (fun v _ => v = .bool true) ::
  (fun v _ => v = .bool true) ::
  (fun v _ => v = .bool true) ::
  (fun v _ => v = .slice A4 0 c4) ::
  (fun v _ => v = .int .i64 0) ::
  (fun v _ => v = .bool true) ::
  (fun v _ => v = .bool true) ::
  (fun v _ => v = .bool true) ::
  (fun v _ => v = .int .i64 0) ::
  (fun v _ => v = .bool true) ::
  (fun v _ => v = .bool true) ::
  (fun v _ => v = .bool true) ::
  (fun v _ => v = .int .i64 271) ::
  (fun v _ => v = .bool true) ::
  (fun v _ => v = .bool true) ::
  (fun v _ => v = .bool true) ::
  (fun v _ => v = .slice (some ⟨g5, o5, none⟩) 2 c5) ::
  (fun v _ => v = .int .i64 2) ::
  (fun v _ => v = .bool true) ::
  (fun v _ => v = .bool true) ::
  (fun v _ => v = .bool true) ::
  (fun v _ => v = .int .i64 25) ::
  (fun v _ => v = .bool true) ::
  (fun v _ => v = .bool true) ::
  (fun v _ => v = .bool true) ::
  (fun v _ => v = .int .i64 0) ::
  (fun v _ => v = .bool true) ::
  (fun v _ => v = .bool true) ::
  (fun v _ => v = .bool true) ::
  (fun v _ => v = .slice (some ⟨g5, o5, none⟩) 2 c5) ::
  (fun v _ => v = .pointer (some ⟨g5, o5, none⟩)) ::
  (fun v _ => v = .agg #[.int .i64 y.E.kind, .string (strOf y.E.key), .slice y.A y.m y.c]) ::
  (fun v _ => v = .agg #[.int .i64 1, .string (strOf [97]), .slice (some ⟨b0, 0, none⟩) 1 1]) ::
  (fun v _ => v = .bool true) ::
  (fun v _ => v = .bool true) ::
  (fun v _ => v = .bool true) ::
  (fun v _ => v = .slice A7 1 c7) ::
  (fun v _ => v = .int .i64 1) ::
  (fun v _ => v = .bool true) ::
  (fun v _ => v = .bool true) ::
  (fun v _ => v = .bool true) ::
  (fun v _ => v = .int .i64 13) ::
  (fun v _ => v = .bool true) ::
  (fun v _ => v = .bool true) ::
  (fun v _ => v = .bool true) ::
  (fun v _ => v = .int .i64 270) ::
  (fun v _ => v = .bool true) ::
  (fun v _ => v = .bool true) ::
  (fun v _ => v = .bool true) ::
  (fun v _ => v = .slice A8 0 c8) ::
  (fun v _ => v = .int .i64 0) ::
  (fun v _ => v = .bool true) ::
  (fun v _ => v = .bool true) ::
  (fun v _ => v = .bool true) ::
  (fun v _ => v = .int .i64 0) ::
  (fun v _ => v = .bool true) ::
  (fun v _ => v = .bool true) ::
  (fun v _ => v = .bool true) ::
  (fun v _ => v = .int .i64 0) ::
  (fun v _ => v = .bool true) ::
  (fun v _ => v = .bool true) ::
  (fun v _ => v = .bool true) ::
  (fun v _ => v = .slice A6 25 c6) ::
  (fun v W => ∃ B m d, v = .slice B m d ∧ (m = 13 ∧ Bs W B m d sL1)) ::
  (fun v _ => v = .slice A1 13 c1) ::
  (fun v _ => v = .bool true) ::
  (fun v _ => v = .bool true) ::
  (fun v _ => v = .bool true) ::
  (fun v _ => v = .int .u32 0) ::
  (fun v _ => v = .bool true) ::
  (fun v _ => v = .bool true) ::
  (fun v _ => v = .bool true) ::
  (fun v _ => v = .slice (some ⟨g5, o5, none⟩) 2 c5) ::
  (fun v _ => v = .int .u32 (H2 : Nat)) ::
  (fun v _ => v = .slice (some ⟨g5, o5, none⟩) 2 c5) ::
  (fun v _ => v = .int .u32 (H2 : Nat)) ::
  (fun v _ => v = .bool true) ::
  (fun v _ => v = .bool true) ::
  (fun v _ => v = .bool true) ::
  (fun v _ => v = .slice (some ⟨g5, o5, none⟩) 2 c5) ::
  (fun v _ => v = .int .u32 (H2 : Nat)) ::
  (fun v _ => v = .slice (some ⟨g5, o5, none⟩) 2 c5) ::
  (fun v _ => v = .slice A51 1 c5) ::
  (fun v _ => v = .int .u32 (H1 : Nat)) ::
  (fun v _ => v = .bool true) ::
  (fun v _ => v = .bool true) ::
  (fun v _ => v = .bool true) ::
  []) i (fun _ _ => True)) v W

set_option maxRecDepth 100000 in
set_option maxHeartbeats 4000000 in
theorem san_tail (w W0 : World) (a : Act) (Q : Exit → Act → World → Prop) (hsz : a.tmps.size = 182) (hdf : a.defers = [])
    (b0 b1 : Nat) (A1 A2 A4 A6 A7 A8 : Option Addr) (g5 o5 c1 c2 c4 c5 c6 c7 c8 : Nat) (ys5 : List Rec)
    (t1 : a.tmps.getD 1 undef = .pointer (some ⟨b1, 0, none⟩))
    (t2 : a.tmps.getD 2 undef = .slice A1 13 c1)
    (t3 : a.tmps.getD 3 undef = .int .i64 0)
    (t5 : a.tmps.getD 5 undef = .int .i64 1)
    (t6 : a.tmps.getD 6 undef = .slice A2 25 c2)
    (t7 : a.tmps.getD 7 undef = .int .i64 0)
    (t8 : a.tmps.getD 8 undef = .slice A4 0 c4)
    (t9 : a.tmps.getD 9 undef = .int .i64 0)
    (t10 : a.tmps.getD 10 undef = .int .i64 271)
    (t11 : a.tmps.getD 11 undef = .slice (some ⟨g5, o5, none⟩) 2 c5)
    (t12 : a.tmps.getD 12 undef = .int .i64 25)
    (t13 : a.tmps.getD 13 undef = .int .i64 0)
    (t14 : a.tmps.getD 14 undef = .slice A6 25 c6)
    (t15 : a.tmps.getD 15 undef = .slice A7 1 c7)
    (t16 : a.tmps.getD 16 undef = .int .i64 13)
    (t17 : a.tmps.getD 17 undef = .int .i64 270)
    (t18 : a.tmps.getD 18 undef = .slice A8 0 c8)
    (t19 : a.tmps.getD 19 undef = .int .i64 0)
    (t20 : a.tmps.getD 20 undef = .int .i64 0)
    (hbw : Below w.heap.size w W0) (h1 : Bs W0 A1 13 c1 sL1) (h6 : Bs W0 A6 25 c6 (sL2.set 20 1)) (hE5 : Es W0 (some ⟨g5, o5, none⟩) 2 c5 ys5) (hy5 : ys5.map (·.E) = [sE1, sE2])
    (hb : Bs W0 (some ⟨b0, 0, none⟩) 1 1 [98]) (hrc : W0.rangeAt b1 0 [.int .i64 1, .string (strOf [97]), .slice (some ⟨b0, 0, none⟩) 1 1]) (hg : GOk W0)
    (hq : ∀ (a' : Act) (W' : World), a'.tmps.getD 0 undef = .bool true → a'.defers = [] → Below w.heap.size w W' → Q .ret a' W')
    (K : Act → World → Prop) (hK0 : ∀ (a' : Act) (W' : World), Code.ret.wp Tryd.prog Q a' W' → K a' W') : (headC (sT 12)).wp Tryd.prog (Exit.then K Q) a W0 := by
  obtain ⟨A9, hrun9, htr9⟩ := cut_h (P := Tryd.prog) 22 5 Tryd.underlying22 info5 A1 13 c1 9 9 rfl (by decide) h1.le
  have hcut9 := sliceAt_of Tryd.underlying22 hrun9
  have hb9 : ∀ W, Below W0.heap.size W0 W → Bs W A9 9 c1 (sL1.take 9) := fun W hW => htr9 W _ (h1.below hW)
  obtain ⟨A51, hrun51, hE51'⟩ := cut_hE (some ⟨g5, o5, none⟩) 2 c5 1 1 rfl (by decide) hE5.le
  have hcut1 := sliceAt_of Tryd.underlying23 hrun51
  have hE51 : ∀ W, Es W (some ⟨g5, o5, none⟩) 2 c5 ys5 → Es W A51 1 c5 (ys5.take 1) := fun W h => hE51' W _ h
  have h50 : 0 < ys5.length := by rw [hE5.len]; decide
  have hmem : ys5[0] ∈ ys5 := List.getElem_mem h50
  have hyb := hE5.bd _ hmem
  have hy : ys5[0].E = sE1 := by
    have h : (ys5.map (·.E))[0]? = some ys5[0].E := by rw [List.getElem?_map, List.getElem?_eq_getElem h50]; rfl
    rw [hy5] at h
    exact (Option.some.inj h).symm
  obtain ⟨b', o', eb, hr⟩ := es_range hE5 (by decide)
  injection eb with eb
  injection eb with eb eo
  subst eb eo
  have hri := hr 0 h50
  rw [Nat.mul_zero, Nat.add_zero] at hri
  have hix := ix0 23 25 Tryd.underlying23 infoE25 g5 o5 2 c5 (by decide)
  have hv5 : ∀ y, y ∈ ys5 → VE y.E := fun y hy => by
    have : y.E ∈ ys5.map (·.E) := List.mem_map.2 ⟨y, hy, rfl⟩
    rw [hy5] at this
    exact sVEs _ this
  obtain ⟨H2, hH2⟩ : ∃ H2, H2 = chainH (ys5.map (·.E)) := ⟨_, rfl⟩
  obtain ⟨H1, hH1⟩ : ∃ H1, H1 = chainH ((ys5.take 1).map (·.E)) := ⟨_, rfl⟩
  have hne : ((H2 : Int) != (H1 : Int)) = true := by
    have h0 : (ys5.take 1).map (·.E) = [sE1] := by rw [List.map_take, hy5]; rfl
    rw [hy5] at hH2
    rw [h0] at hH1
    have := sHash
    rw [← hH2, ← hH1] at this
    simp only [bne_iff_ne, ne_eq]
    omega
  generalize ys5[0] = y at *
  conv => arg 2; whnf
  refine wp_region_mono (by kernel_rfl)
    ((82, sanD.erase 82, []) :: (83, sanD.erase 83, [(0, 82)]) :: (84, sanD.erase 84, [(1, 83)]) :: (85, sanD.erase 85, [(2, 84)]) :: (86, sanD.erase 86, [(2, 84), (3, 85)]) :: (87, sanD.erase 87, [(2, 84), (4, 86)]) :: (88, sanD.erase 88, [(2, 84), (5, 87)]) :: (89, sanD.erase 89, [(6, 88)]) :: (90, sanD.erase 90, [(6, 88), (7, 89)]) :: (91, sanD.erase 91, [(6, 88), (8, 90)]) :: (92, sanD.erase 92, [(6, 88), (9, 91)]) :: (93, sanD.erase 93, [(10, 92)]) :: (94, sanD.erase 94, [(10, 92), (11, 93)]) :: (95, sanD.erase 95, [(10, 92)]) :: (96, sanD.erase 96, [(10, 92), (12, 94), (13, 95)]) :: (97, sanD.erase 97, [(10, 92), (14, 96)]) :: (98, sanD.erase 98, [(14, 96), (15, 97)]) :: (99, sanD.erase 99, [(16, 98)]) :: (100, sanD.erase 100, [(16, 98), (17, 99)]) :: (101, sanD.erase 101, [(16, 98), (18, 100)]) :: (102, sanD.erase 102, [(16, 98), (19, 101)]) :: (103, sanD.erase 103, [(16, 98), (20, 102)]) :: (104, sanD.erase 104, [(21, 103)]) :: (105, sanD.erase 105, [(21, 103), (22, 104)]) :: (106, sanD.erase 106, [(21, 103), (23, 105)]) :: (107, sanD.erase 107, [(21, 103), (24, 106)]) :: (108, sanD.erase 108, [(25, 107)]) :: (109, sanD.erase 109, [(25, 107), (26, 108)]) :: (110, sanD.erase 110, [(25, 107), (27, 109)]) :: (111, sanD.erase 111, [(25, 107), (28, 110)]) :: (112, sanD.erase 112, [(29, 111)]) :: (113, sanD.erase 113, [(29, 111), (30, 112)]) :: (114, sanD.erase 114, [(29, 111), (31, 113)]) :: (115, sanD.erase 115, [(29, 111), (32, 114)]) :: (116, sanD.erase 116, [(29, 111), (33, 115)]) :: (117, sanD.erase 117, [(34, 116)]) :: (118, sanD.erase 118, [(34, 116), (35, 117)]) :: (119, sanD.erase 119, [(34, 116), (36, 118)]) :: (120, sanD.erase 120, [(34, 116), (37, 119)]) :: (121, sanD.erase 121, [(38, 120)]) :: (122, sanD.erase 122, [(38, 120), (39, 121)]) :: (123, sanD.erase 123, [(38, 120), (40, 122)]) :: (124, sanD.erase 124, [(38, 120), (41, 123)]) :: (125, sanD.erase 125, [(42, 124)]) :: (126, sanD.erase 126, [(42, 124), (43, 125)]) :: (127, sanD.erase 127, [(42, 124), (44, 126)]) :: (128, sanD.erase 128, [(42, 124)]) :: (129, sanD.erase 129, [(42, 124), (45, 127), (46, 128)]) :: (130, sanD.erase 130, [(42, 124), (47, 129)]) :: (131, sanD.erase 131, [(47, 129), (48, 130)]) :: (132, sanD.erase 132, [(49, 131)]) :: (133, sanD.erase 133, [(49, 131), (50, 132)]) :: (134, sanD.erase 134, [(49, 131), (51, 133)]) :: (135, sanD.erase 135, [(49, 131), (52, 134)]) :: (136, sanD.erase 136, [(49, 131), (53, 135)]) :: (137, sanD.erase 137, [(54, 136)]) :: (138, sanD.erase 138, [(54, 136), (55, 137)]) :: (139, sanD.erase 139, [(54, 136), (56, 138)]) :: (140, sanD.erase 140, [(54, 136), (57, 139)]) :: (141, sanD.erase 141, [(58, 140)]) :: (142, sanD.erase 142, [(58, 140), (59, 141)]) :: (143, sanD.erase 143, [(58, 140), (60, 142)]) :: (144, sanD.erase 144, [(58, 140), (61, 143)]) :: (145, sanD.erase 145, [(62, 144)]) :: (146, sanD.erase 146, [(62, 144), (63, 145)]) :: (147, sanD.erase 147, [(62, 144), (64, 146)]) :: (148, sanD.erase 148, [(62, 144), (65, 147)]) :: (149, sanD.erase 149, [(62, 144), (66, 148)]) :: (150, sanD.erase 150, [(67, 149)]) :: (151, sanD.erase 151, [(67, 149), (68, 150)]) :: (152, sanD.erase 152, [(67, 149), (69, 151)]) :: (153, sanD.erase 153, [(67, 149), (70, 152)]) :: (154, sanD.erase 154, [(71, 153)]) :: (155, sanD.erase 155, [(71, 153), (72, 154)]) :: (156, sanD.erase 156, [(71, 153), (73, 155)]) :: (157, sanD.erase 157, [(71, 153), (74, 156)]) :: (158, sanD.erase 158, [(75, 157)]) :: (159, sanD.erase 159, [(75, 157), (76, 158)]) :: (160, sanD.erase 160, [(75, 157)]) :: (161, sanD.erase 161, [(75, 157), (77, 159), (78, 160)]) :: (162, sanD.erase 162, [(75, 157), (79, 161)]) :: (163, sanD.erase 163, [(79, 161), (80, 162)]) :: (164, sanD.erase 164, [(81, 163)]) :: (165, sanD.erase 165, [(81, 163), (82, 164)]) :: (166, sanD.erase 166, [(81, 163), (83, 165)]) :: (167, sanD.erase 167, [(82, 164), (84, 166)]) :: (168, sanD.erase 168, [(85, 167)]) :: (169, sanD.erase 169, [(85, 167), (86, 168)]) :: (170, sanD.erase 170, [(85, 167)]) :: (171, sanD.erase 171, [(85, 167), (87, 169), (88, 170)]) :: (172, sanD.erase 172, [(85, 167), (87, 169), (89, 171)]) :: (173, sanD.erase 173, [(85, 167), (90, 172)]) :: (174, sanD.erase 174, [(89, 171), (91, 173)]) :: (175, sanD.erase 175, [(92, 174)]) :: (176, sanD.erase 176, [(92, 174), (93, 175)]) :: (177, sanD.erase 177, [(92, 174)]) :: (178, sanD.erase 178, [(92, 174), (95, 177)]) :: (179, sanD.erase 179, [(92, 174), (94, 176), (96, 178)]) :: (180, sanD.erase 180, [(92, 174), (94, 176), (97, 179)]) :: (181, sanD.erase 181, [(92, 174), (98, 180)]) :: (0, sanD.erase 0, [(0, 82), (1, 83), (2, 84), (3, 85), (4, 86), (5, 87), (6, 88), (7, 89), (8, 90), (9, 91), (10, 92), (11, 93), (12, 94), (13, 95), (14, 96), (15, 97), (16, 98), (17, 99), (18, 100), (19, 101), (20, 102), (21, 103), (22, 104), (23, 105), (24, 106), (25, 107), (26, 108), (27, 109), (28, 110), (29, 111), (30, 112), (31, 113), (32, 114), (33, 115), (34, 116), (35, 117), (36, 118), (37, 119), (38, 120), (39, 121), (40, 122), (41, 123), (42, 124), (43, 125), (44, 126), (45, 127), (46, 128), (47, 129), (48, 130), (49, 131), (50, 132), (51, 133), (52, 134), (53, 135), (54, 136), (55, 137), (56, 138), (57, 139), (58, 140), (59, 141), (60, 142), (61, 143), (62, 144), (63, 145), (64, 146), (65, 147), (66, 148), (67, 149), (68, 150), (69, 151), (70, 152), (71, 153), (72, 154), (73, 155), (74, 156), (75, 157), (76, 158), (77, 159), (78, 160), (79, 161), (80, 162), (81, 163), (82, 164), (83, 165), (84, 166), (85, 167), (86, 168), (87, 169), (88, 170), (89, 171), (90, 172), (91, 173), (92, 174), (93, 175), (94, 176), (95, 177), (96, 178), (97, 179), (98, 180), (99, 181)]) :: [])
    (by kernel_rfl) (sanPhi b0 b1 A1 A2 A4 A6 A7 A8 A9 A51 g5 o5 c1 c2 c4 c5 c6 c7 c8 H1 H2 y) (by rw [hsz]; decide) ⟨?_, ?_, ?_, ?_, ?_, ?_, ?_, ?_, ?_, ?_, ?_, ?_, ?_, ?_, ?_, ?_, ?_, ?_, ?_, ?_, ?_, ?_, ?_, ?_, ?_, ?_, ?_, ?_, ?_, ?_, ?_, ?_, ?_, ?_, ?_, ?_, ?_, ?_, ?_, ?_, ?_, ?_, ?_, ?_, ?_, ?_, ?_, ?_, ?_, ?_, ?_, ?_, ?_, ?_, ?_, ?_, ?_, ?_, ?_, ?_, ?_, ?_, ?_, ?_, ?_, ?_, ?_, ?_, ?_, ?_, ?_, ?_, ?_, ?_, ?_, ?_, ?_, ?_, ?_, ?_, ?_, ?_, ?_, ?_, ?_, ?_, ?_, ?_, ?_, ?_, ?_, ?_, ?_, ?_, ?_, ?_, ?_, ?_, ?_, ?_, ?_, trivial⟩ ?_
  · intro us W hW hE
    intro K hK
    with_reducible refine stepV0 (.int .i64 0) (W) ?_ ?_ ?_
    · rfl
    · exact (ex_move rfl (ev_old (by decide) t3))
    · exact hK _ _ (Below.refl _ _) (fun W'' h => rfl)
  · intro us W hW hE
    have e0 : us 82 = .int .i64 0 := hE.1
    intro K hK
    with_reducible refine stepV0 (.bool true) (W) ?_ ?_ ?_
    · rfl
    · exact (ex_cmp rfl (ev_us hsz (by decide) e0) rfl (eql_int (by decide)))
    · exact hK _ _ (Below.refl _ _) (fun W'' h => rfl)
  · intro us W hW hE
    have e1 : us 83 = .bool true := hE.1
    intro K hK
    with_reducible refine stepV0 (.bool true) (W) ?_ ?_ ?_
    · rfl
    · exact (ex_move rfl (ev_us hsz (by decide) e1))
    · exact hK _ _ (Below.refl _ _) (fun W'' h => rfl)
  · intro us W hW hE
    have e2 : us 84 = .bool true := hE.1
    intro K hK
    with_reducible refine stepV1 (.int .i64 1) (W) 2 84 true hsz e2 ?_ ?_ ?_ ?_ ?_
    · rfl
    · kernel_rfl
    · decide
    · exact (ex_move rfl (ev_old (by decide) t5))
    · exact hK _ _ (Below.refl _ _) (fun W'' h => rfl)
  · intro us W hW hE
    have e2 : us 84 = .bool true := hE.1
    have e3 : us 85 = .int .i64 1 := hE.2.1
    intro K hK
    with_reducible refine stepV1 (.bool true) (W) 2 84 true hsz e2 ?_ ?_ ?_ ?_ ?_
    · rfl
    · kernel_rfl
    · decide
    · exact (ex_cmp rfl (ev_us hsz (by decide) e3) rfl (eql_int (by decide)))
    · exact hK _ _ (Below.refl _ _) (fun W'' h => rfl)
  · intro us W hW hE
    have e2 : us 84 = .bool true := hE.1
    have e4 : us 86 = .bool true := hE.2.1
    intro K hK
    with_reducible refine stepV0 (.bool true) (W) ?_ ?_ ?_
    · rfl
    · exact (ex_pick_t rfl (ev_us hsz (by decide) e2) (ev_us hsz (by decide) e4))
    · exact hK _ _ (Below.refl _ _) (fun W'' h => rfl)
  · intro us W hW hE
    have e5 : us 87 = .bool true := hE.2.1
    intro K hK
    with_reducible refine stepV0 (.bool true) (W) ?_ ?_ ?_
    · rfl
    · exact (ex_move rfl (ev_us hsz (by decide) e5))
    · exact hK _ _ (Below.refl _ _) (fun W'' h => rfl)
  · intro us W hW hE
    have e6 : us 88 = .bool true := hE.1
    intro K hK
    with_reducible refine stepV1 (.int .i64 0) (W) 6 88 true hsz e6 ?_ ?_ ?_ ?_ ?_
    · rfl
    · kernel_rfl
    · decide
    · exact (ex_move rfl (ev_old (by decide) t7))
    · exact hK _ _ (Below.refl _ _) (fun W'' h => rfl)
  · intro us W hW hE
    have e6 : us 88 = .bool true := hE.1
    have e7 : us 89 = .int .i64 0 := hE.2.1
    intro K hK
    with_reducible refine stepV1 (.bool true) (W) 6 88 true hsz e6 ?_ ?_ ?_ ?_ ?_
    · rfl
    · kernel_rfl
    · decide
    · exact (ex_cmp rfl (ev_us hsz (by decide) e7) rfl (eql_int (by decide)))
    · exact hK _ _ (Below.refl _ _) (fun W'' h => rfl)
  · intro us W hW hE
    have e6 : us 88 = .bool true := hE.1
    have e8 : us 90 = .bool true := hE.2.1
    intro K hK
    with_reducible refine stepV0 (.bool true) (W) ?_ ?_ ?_
    · rfl
    · exact (ex_pick_t rfl (ev_us hsz (by decide) e6) (ev_us hsz (by decide) e8))
    · exact hK _ _ (Below.refl _ _) (fun W'' h => rfl)
  · intro us W hW hE
    have e9 : us 91 = .bool true := hE.2.1
    intro K hK
    with_reducible refine stepV0 (.bool true) (W) ?_ ?_ ?_
    · rfl
    · exact (ex_move rfl (ev_us hsz (by decide) e9))
    · exact hK _ _ (Below.refl _ _) (fun W'' h => rfl)
  · intro us W hW hE
    have e10 : us 92 = .bool true := hE.1
    intro K hK
    with_reducible refine stepV1 (.slice A1 13 c1) (W) 10 92 true hsz e10 ?_ ?_ ?_ ?_ ?_
    · rfl
    · kernel_rfl
    · decide
    · exact (ex_move rfl (ev_old (by decide) t2))
    · exact hK _ _ (Below.refl _ _) (fun W'' h => rfl)
  · intro us W hW hE
    have e10 : us 92 = .bool true := hE.1
    have e11 : us 93 = .slice A1 13 c1 := hE.2.1
    intro K hK
    with_reducible refine stepV1 (.slice A9 9 c1) (W) 10 92 true hsz e10 ?_ ?_ ?_ ?_ ?_
    · rfl
    · kernel_rfl
    · decide
    · exact ex_sliceH rfl (ev_us hsz (by decide) e11) rfl (hcut9 W)
    · exact hK _ _ (Below.refl _ _) (fun W'' h => rfl)
  · intro us W hW hE
    have e10 : us 92 = .bool true := hE.1
    intro K hK
    with_reducible refine stepV1 (.slice (some ⟨W.heap.size, 0, none⟩) 9 9) (W.alloc (.cells #[.int .u8 5, .int .u8 0, .int .u8 0, .int .u8 0, .int .u8 2, .int .u8 2, .int .u8 97, .int .u8 2, .int .u8 98] 5)) 10 92 true hsz e10 ?_ ?_ ?_ ?_ ?_
    · rfl
    · kernel_rfl
    · decide
    · exact ex_buildSlice (vs := nine9) rfl (by simp [Act.eval, nine9]) (bs9 W)
    · exact hK _ _ (below_al W _) (fun W'' h => ⟨_, rfl, (bs_block [5, 0, 0, 0, 2, 2, 97, 2, 98] 9 (al_last W _ rfl) rfl (by decide) (by decide)).below h⟩)
  · intro us W hW hE
    have e10 : us 92 = .bool true := hE.1
    have e12 : us 94 = .slice A9 9 c1 := hE.2.1
    obtain ⟨g_13, e13, p13⟩ : ∃ g, us 95 = .slice (some ⟨g, 0, none⟩) 9 9 ∧ Bs W (some ⟨g, 0, none⟩) 9 9 [5, 0, 0, 0, 2, 2, 97, 2, 98] := hE.2.2.1
    intro K hK
    with_reducible refine stepC1 (18) (#[.slice A9 9 c1, .slice (some ⟨g_13, 0, none⟩) 9 9]) 10 92 true hsz e10 ?_ ?_ ?_ ?_ ?_
    · rfl
    · kernel_rfl
    · decide
    · exact (ex_fn2 rfl rfl (ev_us hsz (by decide) e12) (ev_us hsz (by decide) e13) (cf18 _ _))
    · refine Calls.mono (sameBytes A9 (some ⟨g_13, 0, none⟩) 9 9 c1 9 (sL1.take 9) [5, 0, 0, 0, 2, 2, 97, 2, 98] W (hb9 W (undrew hW)) p13 (by decide) true (by rw [sTake9]; decide)) ?_
      rintro e w2 ⟨rfl, hB2⟩
      exact ⟨_, rfl, hK _ _ hB2 (fun W'' h => rfl)⟩
  · intro us W hW hE
    have e10 : us 92 = .bool true := hE.1
    have e14 : us 96 = .bool true := hE.2.1
    intro K hK
    with_reducible refine stepV0 (.bool true) (W) ?_ ?_ ?_
    · rfl
    · exact (ex_pick_t rfl (ev_us hsz (by decide) e10) (ev_us hsz (by decide) e14))
    · exact hK _ _ (Below.refl _ _) (fun W'' h => rfl)
  · intro us W hW hE
    have e15 : us 97 = .bool true := hE.2.1
    intro K hK
    with_reducible refine stepV0 (.bool true) (W) ?_ ?_ ?_
    · rfl
    · exact (ex_move rfl (ev_us hsz (by decide) e15))
    · exact hK _ _ (Below.refl _ _) (fun W'' h => rfl)
  · intro us W hW hE
    have e16 : us 98 = .bool true := hE.1
    intro K hK
    with_reducible refine stepV1 (.slice A4 0 c4) (W) 16 98 true hsz e16 ?_ ?_ ?_ ?_ ?_
    · rfl
    · kernel_rfl
    · decide
    · exact (ex_move rfl (ev_old (by decide) t8))
    · exact hK _ _ (Below.refl _ _) (fun W'' h => rfl)
  · intro us W hW hE
    have e16 : us 98 = .bool true := hE.1
    have e17 : us 99 = .slice A4 0 c4 := hE.2.1
    intro K hK
    with_reducible refine stepV1 (.int .i64 0) (W) 16 98 true hsz e16 ?_ ?_ ?_ ?_ ?_
    · rfl
    · kernel_rfl
    · decide
    · exact (ex_len rfl Tryd.underlying23 (ev_us hsz (by decide) e17))
    · exact hK _ _ (Below.refl _ _) (fun W'' h => rfl)
  · intro us W hW hE
    have e16 : us 98 = .bool true := hE.1
    have e18 : us 100 = .int .i64 0 := hE.2.1
    intro K hK
    with_reducible refine stepV1 (.bool true) (W) 16 98 true hsz e16 ?_ ?_ ?_ ?_ ?_
    · rfl
    · kernel_rfl
    · decide
    · exact (ex_cmp rfl (ev_us hsz (by decide) e18) rfl (eql_int (by decide)))
    · exact hK _ _ (Below.refl _ _) (fun W'' h => rfl)
  · intro us W hW hE
    have e16 : us 98 = .bool true := hE.1
    have e19 : us 101 = .bool true := hE.2.1
    intro K hK
    with_reducible refine stepV0 (.bool true) (W) ?_ ?_ ?_
    · rfl
    · exact (ex_pick_t rfl (ev_us hsz (by decide) e16) (ev_us hsz (by decide) e19))
    · exact hK _ _ (Below.refl _ _) (fun W'' h => rfl)
  · intro us W hW hE
    have e20 : us 102 = .bool true := hE.2.1
    intro K hK
    with_reducible refine stepV0 (.bool true) (W) ?_ ?_ ?_
    · rfl
    · exact (ex_move rfl (ev_us hsz (by decide) e20))
    · exact hK _ _ (Below.refl _ _) (fun W'' h => rfl)
  · intro us W hW hE
    have e21 : us 103 = .bool true := hE.1
    intro K hK
    with_reducible refine stepV1 (.int .i64 0) (W) 21 103 true hsz e21 ?_ ?_ ?_ ?_ ?_
    · rfl
    · kernel_rfl
    · decide
    · exact (ex_move rfl (ev_old (by decide) t9))
    · exact hK _ _ (Below.refl _ _) (fun W'' h => rfl)
  · intro us W hW hE
    have e21 : us 103 = .bool true := hE.1
    have e22 : us 104 = .int .i64 0 := hE.2.1
    intro K hK
    with_reducible refine stepV1 (.bool true) (W) 21 103 true hsz e21 ?_ ?_ ?_ ?_ ?_
    · rfl
    · kernel_rfl
    · decide
    · exact (ex_cmp rfl (ev_us hsz (by decide) e22) rfl (eql_int (by decide)))
    · exact hK _ _ (Below.refl _ _) (fun W'' h => rfl)
  · intro us W hW hE
    have e21 : us 103 = .bool true := hE.1
    have e23 : us 105 = .bool true := hE.2.1
    intro K hK
    with_reducible refine stepV0 (.bool true) (W) ?_ ?_ ?_
    · rfl
    · exact (ex_pick_t rfl (ev_us hsz (by decide) e21) (ev_us hsz (by decide) e23))
    · exact hK _ _ (Below.refl _ _) (fun W'' h => rfl)
  · intro us W hW hE
    have e24 : us 106 = .bool true := hE.2.1
    intro K hK
    with_reducible refine stepV0 (.bool true) (W) ?_ ?_ ?_
    · rfl
    · exact (ex_move rfl (ev_us hsz (by decide) e24))
    · exact hK _ _ (Below.refl _ _) (fun W'' h => rfl)
  · intro us W hW hE
    have e25 : us 107 = .bool true := hE.1
    intro K hK
    with_reducible refine stepV1 (.int .i64 271) (W) 25 107 true hsz e25 ?_ ?_ ?_ ?_ ?_
    · rfl
    · kernel_rfl
    · decide
    · exact (ex_move rfl (ev_old (by decide) t10))
    · exact hK _ _ (Below.refl _ _) (fun W'' h => rfl)
  · intro us W hW hE
    have e25 : us 107 = .bool true := hE.1
    have e26 : us 108 = .int .i64 271 := hE.2.1
    intro K hK
    with_reducible refine stepV1 (.bool true) (W) 25 107 true hsz e25 ?_ ?_ ?_ ?_ ?_
    · rfl
    · kernel_rfl
    · decide
    · exact (ex_cmp rfl (ev_us hsz (by decide) e26) rfl (eql_int (by decide)))
    · exact hK _ _ (Below.refl _ _) (fun W'' h => rfl)
  · intro us W hW hE
    have e25 : us 107 = .bool true := hE.1
    have e27 : us 109 = .bool true := hE.2.1
    intro K hK
    with_reducible refine stepV0 (.bool true) (W) ?_ ?_ ?_
    · rfl
    · exact (ex_pick_t rfl (ev_us hsz (by decide) e25) (ev_us hsz (by decide) e27))
    · exact hK _ _ (Below.refl _ _) (fun W'' h => rfl)
  · intro us W hW hE
    have e28 : us 110 = .bool true := hE.2.1
    intro K hK
    with_reducible refine stepV0 (.bool true) (W) ?_ ?_ ?_
    · rfl
    · exact (ex_move rfl (ev_us hsz (by decide) e28))
    · exact hK _ _ (Below.refl _ _) (fun W'' h => rfl)
  · intro us W hW hE
    have e29 : us 111 = .bool true := hE.1
    intro K hK
    with_reducible refine stepV1 (.slice (some ⟨g5, o5, none⟩) 2 c5) (W) 29 111 true hsz e29 ?_ ?_ ?_ ?_ ?_
    · rfl
    · kernel_rfl
    · decide
    · exact (ex_move rfl (ev_old (by decide) t11))
    · exact hK _ _ (Below.refl _ _) (fun W'' h => rfl)
  · intro us W hW hE
    have e29 : us 111 = .bool true := hE.1
    have e30 : us 112 = .slice (some ⟨g5, o5, none⟩) 2 c5 := hE.2.1
    intro K hK
    with_reducible refine stepV1 (.int .i64 2) (W) 29 111 true hsz e29 ?_ ?_ ?_ ?_ ?_
    · rfl
    · kernel_rfl
    · decide
    · exact (ex_len rfl Tryd.underlying23 (ev_us hsz (by decide) e30))
    · exact hK _ _ (Below.refl _ _) (fun W'' h => rfl)
  · intro us W hW hE
    have e29 : us 111 = .bool true := hE.1
    have e31 : us 113 = .int .i64 2 := hE.2.1
    intro K hK
    with_reducible refine stepV1 (.bool true) (W) 29 111 true hsz e29 ?_ ?_ ?_ ?_ ?_
    · rfl
    · kernel_rfl
    · decide
    · exact (ex_cmp rfl (ev_us hsz (by decide) e31) rfl (eql_int (by decide)))
    · exact hK _ _ (Below.refl _ _) (fun W'' h => rfl)
  · intro us W hW hE
    have e29 : us 111 = .bool true := hE.1
    have e32 : us 114 = .bool true := hE.2.1
    intro K hK
    with_reducible refine stepV0 (.bool true) (W) ?_ ?_ ?_
    · rfl
    · exact (ex_pick_t rfl (ev_us hsz (by decide) e29) (ev_us hsz (by decide) e32))
    · exact hK _ _ (Below.refl _ _) (fun W'' h => rfl)
  · intro us W hW hE
    have e33 : us 115 = .bool true := hE.2.1
    intro K hK
    with_reducible refine stepV0 (.bool true) (W) ?_ ?_ ?_
    · rfl
    · exact (ex_move rfl (ev_us hsz (by decide) e33))
    · exact hK _ _ (Below.refl _ _) (fun W'' h => rfl)
  · intro us W hW hE
    have e34 : us 116 = .bool true := hE.1
    intro K hK
    with_reducible refine stepV1 (.int .i64 25) (W) 34 116 true hsz e34 ?_ ?_ ?_ ?_ ?_
    · rfl
    · kernel_rfl
    · decide
    · exact (ex_move rfl (ev_old (by decide) t12))
    · exact hK _ _ (Below.refl _ _) (fun W'' h => rfl)
  · intro us W hW hE
    have e34 : us 116 = .bool true := hE.1
    have e35 : us 117 = .int .i64 25 := hE.2.1
    intro K hK
    with_reducible refine stepV1 (.bool true) (W) 34 116 true hsz e34 ?_ ?_ ?_ ?_ ?_
    · rfl
    · kernel_rfl
    · decide
    · exact (ex_cmp rfl (ev_us hsz (by decide) e35) rfl (eql_int (by decide)))
    · exact hK _ _ (Below.refl _ _) (fun W'' h => rfl)
  · intro us W hW hE
    have e34 : us 116 = .bool true := hE.1
    have e36 : us 118 = .bool true := hE.2.1
    intro K hK
    with_reducible refine stepV0 (.bool true) (W) ?_ ?_ ?_
    · rfl
    · exact (ex_pick_t rfl (ev_us hsz (by decide) e34) (ev_us hsz (by decide) e36))
    · exact hK _ _ (Below.refl _ _) (fun W'' h => rfl)
  · intro us W hW hE
    have e37 : us 119 = .bool true := hE.2.1
    intro K hK
    with_reducible refine stepV0 (.bool true) (W) ?_ ?_ ?_
    · rfl
    · exact (ex_move rfl (ev_us hsz (by decide) e37))
    · exact hK _ _ (Below.refl _ _) (fun W'' h => rfl)
  · intro us W hW hE
    have e38 : us 120 = .bool true := hE.1
    intro K hK
    with_reducible refine stepV1 (.int .i64 0) (W) 38 120 true hsz e38 ?_ ?_ ?_ ?_ ?_
    · rfl
    · kernel_rfl
    · decide
    · exact (ex_move rfl (ev_old (by decide) t13))
    · exact hK _ _ (Below.refl _ _) (fun W'' h => rfl)
  · intro us W hW hE
    have e38 : us 120 = .bool true := hE.1
    have e39 : us 121 = .int .i64 0 := hE.2.1
    intro K hK
    with_reducible refine stepV1 (.bool true) (W) 38 120 true hsz e38 ?_ ?_ ?_ ?_ ?_
    · rfl
    · kernel_rfl
    · decide
    · exact (ex_cmp rfl (ev_us hsz (by decide) e39) rfl (eql_int (by decide)))
    · exact hK _ _ (Below.refl _ _) (fun W'' h => rfl)
  · intro us W hW hE
    have e38 : us 120 = .bool true := hE.1
    have e40 : us 122 = .bool true := hE.2.1
    intro K hK
    with_reducible refine stepV0 (.bool true) (W) ?_ ?_ ?_
    · rfl
    · exact (ex_pick_t rfl (ev_us hsz (by decide) e38) (ev_us hsz (by decide) e40))
    · exact hK _ _ (Below.refl _ _) (fun W'' h => rfl)
  · intro us W hW hE
    have e41 : us 123 = .bool true := hE.2.1
    intro K hK
    with_reducible refine stepV0 (.bool true) (W) ?_ ?_ ?_
    · rfl
    · exact (ex_move rfl (ev_us hsz (by decide) e41))
    · exact hK _ _ (Below.refl _ _) (fun W'' h => rfl)
  · intro us W hW hE
    have e42 : us 124 = .bool true := hE.1
    intro K hK
    with_reducible refine stepV1 (.slice (some ⟨g5, o5, none⟩) 2 c5) (W) 42 124 true hsz e42 ?_ ?_ ?_ ?_ ?_
    · rfl
    · kernel_rfl
    · decide
    · exact (ex_move rfl (ev_old (by decide) t11))
    · exact hK _ _ (Below.refl _ _) (fun W'' h => rfl)
  · intro us W hW hE
    have e42 : us 124 = .bool true := hE.1
    have e43 : us 125 = .slice (some ⟨g5, o5, none⟩) 2 c5 := hE.2.1
    intro K hK
    with_reducible refine stepV1 (.pointer (some ⟨g5, o5, none⟩)) (W) 42 124 true hsz e42 ?_ ?_ ?_ ?_ ?_
    · rfl
    · kernel_rfl
    · decide
    · exact ex_index rfl (ev_us hsz (by decide) e43) rfl (hix W)
    · exact hK _ _ (Below.refl _ _) (fun W'' h => rfl)
  · intro us W hW hE
    have e42 : us 124 = .bool true := hE.1
    have e44 : us 126 = .pointer (some ⟨g5, o5, none⟩) := hE.2.1
    intro K hK
    with_reducible refine stepV1 (.agg #[.int .i64 y.E.kind, .string (strOf y.E.key), .slice y.A y.m y.c]) (W) 42 124 true hsz e42 ?_ ?_ ?_ ?_ ?_
    · rfl
    · kernel_rfl
    · decide
    · exact ex_load rfl (ev_us hsz (by decide) e44) (load25 _ _ y W (range_below hri (undrew hW)))
    · exact hK _ _ (Below.refl _ _) (fun W'' h => rfl)
  · intro us W hW hE
    have e42 : us 124 = .bool true := hE.1
    intro K hK
    with_reducible refine stepV1 (.agg #[.int .i64 1, .string (strOf [97]), .slice (some ⟨b0, 0, none⟩) 1 1]) (W) 42 124 true hsz e42 ?_ ?_ ?_ ?_ ?_
    · rfl
    · kernel_rfl
    · decide
    · exact ex_load rfl (ev_old (by decide) t1) (load25 _ _ ⟨sE1, some ⟨b0, 0, none⟩, 1, 1, 0, none⟩ W (range_below hrc (undrew hW)))
    · exact hK _ _ (Below.refl _ _) (fun W'' h => rfl)
  · intro us W hW hE
    have e42 : us 124 = .bool true := hE.1
    have e45 : us 127 = .agg #[.int .i64 y.E.kind, .string (strOf y.E.key), .slice y.A y.m y.c] := hE.2.1
    have e46 : us 128 = .agg #[.int .i64 1, .string (strOf [97]), .slice (some ⟨b0, 0, none⟩) 1 1] := hE.2.2.1
    intro K hK
    with_reducible refine stepC1 (26) (#[.agg #[.int .i64 y.E.kind, .string (strOf y.E.key), .slice y.A y.m y.c], .agg #[.int .i64 1, .string (strOf [97]), .slice (some ⟨b0, 0, none⟩) 1 1]]) 42 124 true hsz e42 ?_ ?_ ?_ ?_ ?_
    · rfl
    · kernel_rfl
    · decide
    · exact (ex_fn2 rfl rfl (ev_us hsz (by decide) e45) (ev_us hsz (by decide) e46) (cf26 _ _))
    · refine Calls.mono (same26 y ⟨sE1, some ⟨b0, 0, none⟩, 1, 1, 0, none⟩ W (hyb.below (undrew hW)) (hb.below (undrew hW)) true (by simp [hy])) ?_
      rintro e w2 ⟨rfl, hB2⟩
      exact ⟨_, rfl, hK _ _ hB2 (fun W'' h => rfl)⟩
  · intro us W hW hE
    have e42 : us 124 = .bool true := hE.1
    have e47 : us 129 = .bool true := hE.2.1
    intro K hK
    with_reducible refine stepV0 (.bool true) (W) ?_ ?_ ?_
    · rfl
    · exact (ex_pick_t rfl (ev_us hsz (by decide) e42) (ev_us hsz (by decide) e47))
    · exact hK _ _ (Below.refl _ _) (fun W'' h => rfl)
  · intro us W hW hE
    have e48 : us 130 = .bool true := hE.2.1
    intro K hK
    with_reducible refine stepV0 (.bool true) (W) ?_ ?_ ?_
    · rfl
    · exact (ex_move rfl (ev_us hsz (by decide) e48))
    · exact hK _ _ (Below.refl _ _) (fun W'' h => rfl)
  · intro us W hW hE
    have e49 : us 131 = .bool true := hE.1
    intro K hK
    with_reducible refine stepV1 (.slice A7 1 c7) (W) 49 131 true hsz e49 ?_ ?_ ?_ ?_ ?_
    · rfl
    · kernel_rfl
    · decide
    · exact (ex_move rfl (ev_old (by decide) t15))
    · exact hK _ _ (Below.refl _ _) (fun W'' h => rfl)
  · intro us W hW hE
    have e49 : us 131 = .bool true := hE.1
    have e50 : us 132 = .slice A7 1 c7 := hE.2.1
    intro K hK
    with_reducible refine stepV1 (.int .i64 1) (W) 49 131 true hsz e49 ?_ ?_ ?_ ?_ ?_
    · rfl
    · kernel_rfl
    · decide
    · exact (ex_len rfl Tryd.underlying23 (ev_us hsz (by decide) e50))
    · exact hK _ _ (Below.refl _ _) (fun W'' h => rfl)
  · intro us W hW hE
    have e49 : us 131 = .bool true := hE.1
    have e51 : us 133 = .int .i64 1 := hE.2.1
    intro K hK
    with_reducible refine stepV1 (.bool true) (W) 49 131 true hsz e49 ?_ ?_ ?_ ?_ ?_
    · rfl
    · kernel_rfl
    · decide
    · exact (ex_cmp rfl (ev_us hsz (by decide) e51) rfl (eql_int (by decide)))
    · exact hK _ _ (Below.refl _ _) (fun W'' h => rfl)
  · intro us W hW hE
    have e49 : us 131 = .bool true := hE.1
    have e52 : us 134 = .bool true := hE.2.1
    intro K hK
    with_reducible refine stepV0 (.bool true) (W) ?_ ?_ ?_
    · rfl
    · exact (ex_pick_t rfl (ev_us hsz (by decide) e49) (ev_us hsz (by decide) e52))
    · exact hK _ _ (Below.refl _ _) (fun W'' h => rfl)
  · intro us W hW hE
    have e53 : us 135 = .bool true := hE.2.1
    intro K hK
    with_reducible refine stepV0 (.bool true) (W) ?_ ?_ ?_
    · rfl
    · exact (ex_move rfl (ev_us hsz (by decide) e53))
    · exact hK _ _ (Below.refl _ _) (fun W'' h => rfl)
  · intro us W hW hE
    have e54 : us 136 = .bool true := hE.1
    intro K hK
    with_reducible refine stepV1 (.int .i64 13) (W) 54 136 true hsz e54 ?_ ?_ ?_ ?_ ?_
    · rfl
    · kernel_rfl
    · decide
    · exact (ex_move rfl (ev_old (by decide) t16))
    · exact hK _ _ (Below.refl _ _) (fun W'' h => rfl)
  · intro us W hW hE
    have e54 : us 136 = .bool true := hE.1
    have e55 : us 137 = .int .i64 13 := hE.2.1
    intro K hK
    with_reducible refine stepV1 (.bool true) (W) 54 136 true hsz e54 ?_ ?_ ?_ ?_ ?_
    · rfl
    · kernel_rfl
    · decide
    · exact (ex_cmp rfl (ev_us hsz (by decide) e55) rfl (eql_int (by decide)))
    · exact hK _ _ (Below.refl _ _) (fun W'' h => rfl)
  · intro us W hW hE
    have e54 : us 136 = .bool true := hE.1
    have e56 : us 138 = .bool true := hE.2.1
    intro K hK
    with_reducible refine stepV0 (.bool true) (W) ?_ ?_ ?_
    · rfl
    · exact (ex_pick_t rfl (ev_us hsz (by decide) e54) (ev_us hsz (by decide) e56))
    · exact hK _ _ (Below.refl _ _) (fun W'' h => rfl)
  · intro us W hW hE
    have e57 : us 139 = .bool true := hE.2.1
    intro K hK
    with_reducible refine stepV0 (.bool true) (W) ?_ ?_ ?_
    · rfl
    · exact (ex_move rfl (ev_us hsz (by decide) e57))
    · exact hK _ _ (Below.refl _ _) (fun W'' h => rfl)
  · intro us W hW hE
    have e58 : us 140 = .bool true := hE.1
    intro K hK
    with_reducible refine stepV1 (.int .i64 270) (W) 58 140 true hsz e58 ?_ ?_ ?_ ?_ ?_
    · rfl
    · kernel_rfl
    · decide
    · exact (ex_move rfl (ev_old (by decide) t17))
    · exact hK _ _ (Below.refl _ _) (fun W'' h => rfl)
  · intro us W hW hE
    have e58 : us 140 = .bool true := hE.1
    have e59 : us 141 = .int .i64 270 := hE.2.1
    intro K hK
    with_reducible refine stepV1 (.bool true) (W) 58 140 true hsz e58 ?_ ?_ ?_ ?_ ?_
    · rfl
    · kernel_rfl
    · decide
    · exact (ex_cmp rfl (ev_us hsz (by decide) e59) rfl (eql_int (by decide)))
    · exact hK _ _ (Below.refl _ _) (fun W'' h => rfl)
  · intro us W hW hE
    have e58 : us 140 = .bool true := hE.1
    have e60 : us 142 = .bool true := hE.2.1
    intro K hK
    with_reducible refine stepV0 (.bool true) (W) ?_ ?_ ?_
    · rfl
    · exact (ex_pick_t rfl (ev_us hsz (by decide) e58) (ev_us hsz (by decide) e60))
    · exact hK _ _ (Below.refl _ _) (fun W'' h => rfl)
  · intro us W hW hE
    have e61 : us 143 = .bool true := hE.2.1
    intro K hK
    with_reducible refine stepV0 (.bool true) (W) ?_ ?_ ?_
    · rfl
    · exact (ex_move rfl (ev_us hsz (by decide) e61))
    · exact hK _ _ (Below.refl _ _) (fun W'' h => rfl)
  · intro us W hW hE
    have e62 : us 144 = .bool true := hE.1
    intro K hK
    with_reducible refine stepV1 (.slice A8 0 c8) (W) 62 144 true hsz e62 ?_ ?_ ?_ ?_ ?_
    · rfl
    · kernel_rfl
    · decide
    · exact (ex_move rfl (ev_old (by decide) t18))
    · exact hK _ _ (Below.refl _ _) (fun W'' h => rfl)
  · intro us W hW hE
    have e62 : us 144 = .bool true := hE.1
    have e63 : us 145 = .slice A8 0 c8 := hE.2.1
    intro K hK
    with_reducible refine stepV1 (.int .i64 0) (W) 62 144 true hsz e62 ?_ ?_ ?_ ?_ ?_
    · rfl
    · kernel_rfl
    · decide
    · exact (ex_len rfl Tryd.underlying23 (ev_us hsz (by decide) e63))
    · exact hK _ _ (Below.refl _ _) (fun W'' h => rfl)
  · intro us W hW hE
    have e62 : us 144 = .bool true := hE.1
    have e64 : us 146 = .int .i64 0 := hE.2.1
    intro K hK
    with_reducible refine stepV1 (.bool true) (W) 62 144 true hsz e62 ?_ ?_ ?_ ?_ ?_
    · rfl
    · kernel_rfl
    · decide
    · exact (ex_cmp rfl (ev_us hsz (by decide) e64) rfl (eql_int (by decide)))
    · exact hK _ _ (Below.refl _ _) (fun W'' h => rfl)
  · intro us W hW hE
    have e62 : us 144 = .bool true := hE.1
    have e65 : us 147 = .bool true := hE.2.1
    intro K hK
    with_reducible refine stepV0 (.bool true) (W) ?_ ?_ ?_
    · rfl
    · exact (ex_pick_t rfl (ev_us hsz (by decide) e62) (ev_us hsz (by decide) e65))
    · exact hK _ _ (Below.refl _ _) (fun W'' h => rfl)
  · intro us W hW hE
    have e66 : us 148 = .bool true := hE.2.1
    intro K hK
    with_reducible refine stepV0 (.bool true) (W) ?_ ?_ ?_
    · rfl
    · exact (ex_move rfl (ev_us hsz (by decide) e66))
    · exact hK _ _ (Below.refl _ _) (fun W'' h => rfl)
  · intro us W hW hE
    have e67 : us 149 = .bool true := hE.1
    intro K hK
    with_reducible refine stepV1 (.int .i64 0) (W) 67 149 true hsz e67 ?_ ?_ ?_ ?_ ?_
    · rfl
    · kernel_rfl
    · decide
    · exact (ex_move rfl (ev_old (by decide) t19))
    · exact hK _ _ (Below.refl _ _) (fun W'' h => rfl)
  · intro us W hW hE
    have e67 : us 149 = .bool true := hE.1
    have e68 : us 150 = .int .i64 0 := hE.2.1
    intro K hK
    with_reducible refine stepV1 (.bool true) (W) 67 149 true hsz e67 ?_ ?_ ?_ ?_ ?_
    · rfl
    · kernel_rfl
    · decide
    · exact (ex_cmp rfl (ev_us hsz (by decide) e68) rfl (eql_int (by decide)))
    · exact hK _ _ (Below.refl _ _) (fun W'' h => rfl)
  · intro us W hW hE
    have e67 : us 149 = .bool true := hE.1
    have e69 : us 151 = .bool true := hE.2.1
    intro K hK
    with_reducible refine stepV0 (.bool true) (W) ?_ ?_ ?_
    · rfl
    · exact (ex_pick_t rfl (ev_us hsz (by decide) e67) (ev_us hsz (by decide) e69))
    · exact hK _ _ (Below.refl _ _) (fun W'' h => rfl)
  · intro us W hW hE
    have e70 : us 152 = .bool true := hE.2.1
    intro K hK
    with_reducible refine stepV0 (.bool true) (W) ?_ ?_ ?_
    · rfl
    · exact (ex_move rfl (ev_us hsz (by decide) e70))
    · exact hK _ _ (Below.refl _ _) (fun W'' h => rfl)
  · intro us W hW hE
    have e71 : us 153 = .bool true := hE.1
    intro K hK
    with_reducible refine stepV1 (.int .i64 0) (W) 71 153 true hsz e71 ?_ ?_ ?_ ?_ ?_
    · rfl
    · kernel_rfl
    · decide
    · exact (ex_move rfl (ev_old (by decide) t20))
    · exact hK _ _ (Below.refl _ _) (fun W'' h => rfl)
  · intro us W hW hE
    have e71 : us 153 = .bool true := hE.1
    have e72 : us 154 = .int .i64 0 := hE.2.1
    intro K hK
    with_reducible refine stepV1 (.bool true) (W) 71 153 true hsz e71 ?_ ?_ ?_ ?_ ?_
    · rfl
    · kernel_rfl
    · decide
    · exact (ex_cmp rfl (ev_us hsz (by decide) e72) rfl (eql_int (by decide)))
    · exact hK _ _ (Below.refl _ _) (fun W'' h => rfl)
  · intro us W hW hE
    have e71 : us 153 = .bool true := hE.1
    have e73 : us 155 = .bool true := hE.2.1
    intro K hK
    with_reducible refine stepV0 (.bool true) (W) ?_ ?_ ?_
    · rfl
    · exact (ex_pick_t rfl (ev_us hsz (by decide) e71) (ev_us hsz (by decide) e73))
    · exact hK _ _ (Below.refl _ _) (fun W'' h => rfl)
  · intro us W hW hE
    have e74 : us 156 = .bool true := hE.2.1
    intro K hK
    with_reducible refine stepV0 (.bool true) (W) ?_ ?_ ?_
    · rfl
    · exact (ex_move rfl (ev_us hsz (by decide) e74))
    · exact hK _ _ (Below.refl _ _) (fun W'' h => rfl)
  · intro us W hW hE
    have e75 : us 157 = .bool true := hE.1
    intro K hK
    with_reducible refine stepV1 (.slice A6 25 c6) (W) 75 157 true hsz e75 ?_ ?_ ?_ ?_ ?_
    · rfl
    · kernel_rfl
    · decide
    · exact (ex_move rfl (ev_old (by decide) t14))
    · exact hK _ _ (Below.refl _ _) (fun W'' h => rfl)
  · intro us W hW hE
    have e75 : us 157 = .bool true := hE.1
    have e76 : us 158 = .slice A6 25 c6 := hE.2.1
    intro K hK
    with_reducible refine stepC1 (20) (#[.slice A6 25 c6]) 75 157 true hsz e75 ?_ ?_ ?_ ?_ ?_
    · rfl
    · kernel_rfl
    · decide
    · exact (ex_fn1 rfl rfl (ev_us hsz (by decide) e76) (cf20 _ _))
    · refine Calls.mono (repair_ok A6 25 c6 (sL2.set 20 1) W (h6.below (undrew hW)) (by decide) (hg.kept (undrew hW)) sL1 sRepair.symm) ?_
      rintro e w2 ⟨B, m, d, rfl, hL2, hB2, hown2⟩
      exact ⟨_, rfl, hK _ _ hB2 (fun W'' h => ⟨B, m, d, rfl, by have := hL2.out; rw [sL1_len] at this; omega, (Bs.own hown2).below h⟩)⟩
  · intro us W hW hE
    have e75 : us 157 = .bool true := hE.1
    intro K hK
    with_reducible refine stepV1 (.slice A1 13 c1) (W) 75 157 true hsz e75 ?_ ?_ ?_ ?_ ?_
    · rfl
    · kernel_rfl
    · decide
    · exact (ex_move rfl (ev_old (by decide) t2))
    · exact hK _ _ (Below.refl _ _) (fun W'' h => rfl)
  · intro us W hW hE
    have e75 : us 157 = .bool true := hE.1
    obtain ⟨B_77, m_77, d_77, e77, p77⟩ : ∃ B m d, us 159 = .slice B m d ∧ (m = 13 ∧ Bs W B m d sL1) := hE.2.1
    have e78 : us 160 = .slice A1 13 c1 := hE.2.2.1
    intro K hK
    with_reducible refine stepC1 (18) (#[.slice B_77 m_77 d_77, .slice A1 13 c1]) 75 157 true hsz e75 ?_ ?_ ?_ ?_ ?_
    · rfl
    · kernel_rfl
    · decide
    · exact (ex_fn2 rfl rfl (ev_us hsz (by decide) e77) (ev_us hsz (by decide) e78) (cf18 _ _))
    · refine Calls.mono (sameBytes B_77 A1 m_77 13 d_77 c1 sL1 sL1 W p77.2 (h1.below (undrew hW)) (by rw [p77.1]; decide) true (decide_eq_true rfl).symm) ?_
      rintro e w2 ⟨rfl, hB2⟩
      exact ⟨_, rfl, hK _ _ hB2 (fun W'' h => rfl)⟩
  · intro us W hW hE
    have e75 : us 157 = .bool true := hE.1
    have e79 : us 161 = .bool true := hE.2.1
    intro K hK
    with_reducible refine stepV0 (.bool true) (W) ?_ ?_ ?_
    · rfl
    · exact (ex_pick_t rfl (ev_us hsz (by decide) e75) (ev_us hsz (by decide) e79))
    · exact hK _ _ (Below.refl _ _) (fun W'' h => rfl)
  · intro us W hW hE
    have e80 : us 162 = .bool true := hE.2.1
    intro K hK
    with_reducible refine stepV0 (.bool true) (W) ?_ ?_ ?_
    · rfl
    · exact (ex_move rfl (ev_us hsz (by decide) e80))
    · exact hK _ _ (Below.refl _ _) (fun W'' h => rfl)
  · intro us W hW hE
    have e81 : us 163 = .bool true := hE.1
    intro K hK
    with_reducible refine stepC1 (22) (#[.slice none 0 0]) 81 163 true hsz e81 ?_ ?_ ?_ ?_ ?_
    · rfl
    · kernel_rfl
    · decide
    · exact (ex_fn1 rfl rfl rfl (cf22 _ _))
    · refine Calls.mono (chain_ok none 0 0 [] W ⟨rfl, by decide, by decide, Rd.nil _ _, fun x hx => by cases hx⟩ (by decide) (fun y hy => by cases hy) 0 rfl) ?_
      rintro e w2 ⟨rfl, hB2⟩
      exact ⟨_, rfl, hK _ _ hB2 (fun W'' h => rfl)⟩
  · intro us W hW hE
    have e81 : us 163 = .bool true := hE.1
    have e82 : us 164 = .int .u32 0 := hE.2.1
    intro K hK
    with_reducible refine stepV1 (.bool true) (W) 81 163 true hsz e81 ?_ ?_ ?_ ?_ ?_
    · rfl
    · kernel_rfl
    · decide
    · exact ex_cmp rfl (ev_us hsz (by decide) e82) rfl (eql_int (by decide))
    · exact hK _ _ (Below.refl _ _) (fun W'' h => rfl)
  · intro us W hW hE
    have e81 : us 163 = .bool true := hE.1
    have e83 : us 165 = .bool true := hE.2.1
    intro K hK
    with_reducible refine stepV0 (.bool true) (W) ?_ ?_ ?_
    · rfl
    · exact (ex_pick_t rfl (ev_us hsz (by decide) e81) (ev_us hsz (by decide) e83))
    · exact hK _ _ (Below.refl _ _) (fun W'' h => rfl)
  · intro us W hW hE
    have e84 : us 166 = .bool true := hE.2.1
    intro K hK
    with_reducible refine stepV0 (.bool true) (W) ?_ ?_ ?_
    · rfl
    · exact (ex_move rfl (ev_us hsz (by decide) e84))
    · exact hK _ _ (Below.refl _ _) (fun W'' h => rfl)
  · intro us W hW hE
    have e85 : us 167 = .bool true := hE.1
    intro K hK
    with_reducible refine stepV1 (.slice (some ⟨g5, o5, none⟩) 2 c5) (W) 85 167 true hsz e85 ?_ ?_ ?_ ?_ ?_
    · rfl
    · kernel_rfl
    · decide
    · exact (ex_move rfl (ev_old (by decide) t11))
    · exact hK _ _ (Below.refl _ _) (fun W'' h => rfl)
  · intro us W hW hE
    have e85 : us 167 = .bool true := hE.1
    have e86 : us 168 = .slice (some ⟨g5, o5, none⟩) 2 c5 := hE.2.1
    intro K hK
    with_reducible refine stepC1 (22) (#[.slice (some ⟨g5, o5, none⟩) 2 c5]) 85 167 true hsz e85 ?_ ?_ ?_ ?_ ?_
    · rfl
    · kernel_rfl
    · decide
    · exact (ex_fn1 rfl rfl (ev_us hsz (by decide) e86) (cf22 _ _))
    · refine Calls.mono (chain_ok _ 2 c5 ys5 W (hE5.below (undrew hW)) (by decide) hv5 H2 hH2) ?_
      rintro e w2 ⟨rfl, hB2⟩
      exact ⟨_, rfl, hK _ _ hB2 (fun W'' h => rfl)⟩
  · intro us W hW hE
    have e85 : us 167 = .bool true := hE.1
    intro K hK
    with_reducible refine stepV1 (.slice (some ⟨g5, o5, none⟩) 2 c5) (W) 85 167 true hsz e85 ?_ ?_ ?_ ?_ ?_
    · rfl
    · kernel_rfl
    · decide
    · exact (ex_move rfl (ev_old (by decide) t11))
    · exact hK _ _ (Below.refl _ _) (fun W'' h => rfl)
  · intro us W hW hE
    have e85 : us 167 = .bool true := hE.1
    have e88 : us 170 = .slice (some ⟨g5, o5, none⟩) 2 c5 := hE.2.2.1
    intro K hK
    with_reducible refine stepC1 (23) (#[.slice (some ⟨g5, o5, none⟩) 2 c5]) 85 167 true hsz e85 ?_ ?_ ?_ ?_ ?_
    · rfl
    · kernel_rfl
    · decide
    · exact (ex_fn1 rfl rfl (ev_us hsz (by decide) e88) (cf23 _ _))
    · refine Calls.mono (refChain 2 _ c5 ys5 W (hE5.below (undrew hW)) (by decide) hv5 H2 hH2) ?_
      rintro e w2 ⟨rfl, hB2⟩
      exact ⟨_, rfl, hK _ _ hB2 (fun W'' h => rfl)⟩
  · intro us W hW hE
    have e85 : us 167 = .bool true := hE.1
    have e87 : us 169 = .int .u32 (H2 : Nat) := hE.2.1
    have e89 : us 171 = .int .u32 (H2 : Nat) := hE.2.2.1
    intro K hK
    with_reducible refine stepV1 (.bool true) (W) 85 167 true hsz e85 ?_ ?_ ?_ ?_ ?_
    · rfl
    · kernel_rfl
    · decide
    · exact ex_cmp rfl (ev_us hsz (by decide) e87) (ev_us hsz (by decide) e89) (eql_int (by simp))
    · exact hK _ _ (Below.refl _ _) (fun W'' h => rfl)
  · intro us W hW hE
    have e85 : us 167 = .bool true := hE.1
    have e90 : us 172 = .bool true := hE.2.1
    intro K hK
    with_reducible refine stepV0 (.bool true) (W) ?_ ?_ ?_
    · rfl
    · exact (ex_pick_t rfl (ev_us hsz (by decide) e85) (ev_us hsz (by decide) e90))
    · exact hK _ _ (Below.refl _ _) (fun W'' h => rfl)
  · intro us W hW hE
    have e91 : us 173 = .bool true := hE.2.1
    intro K hK
    with_reducible refine stepV0 (.bool true) (W) ?_ ?_ ?_
    · rfl
    · exact (ex_move rfl (ev_us hsz (by decide) e91))
    · exact hK _ _ (Below.refl _ _) (fun W'' h => rfl)
  · intro us W hW hE
    have e92 : us 174 = .bool true := hE.1
    intro K hK
    with_reducible refine stepV1 (.slice (some ⟨g5, o5, none⟩) 2 c5) (W) 92 174 true hsz e92 ?_ ?_ ?_ ?_ ?_
    · rfl
    · kernel_rfl
    · decide
    · exact (ex_move rfl (ev_old (by decide) t11))
    · exact hK _ _ (Below.refl _ _) (fun W'' h => rfl)
  · intro us W hW hE
    have e92 : us 174 = .bool true := hE.1
    have e93 : us 175 = .slice (some ⟨g5, o5, none⟩) 2 c5 := hE.2.1
    intro K hK
    with_reducible refine stepC1 (22) (#[.slice (some ⟨g5, o5, none⟩) 2 c5]) 92 174 true hsz e92 ?_ ?_ ?_ ?_ ?_
    · rfl
    · kernel_rfl
    · decide
    · exact (ex_fn1 rfl rfl (ev_us hsz (by decide) e93) (cf22 _ _))
    · refine Calls.mono (chain_ok _ 2 c5 ys5 W (hE5.below (undrew hW)) (by decide) hv5 H2 hH2) ?_
      rintro e w2 ⟨rfl, hB2⟩
      exact ⟨_, rfl, hK _ _ hB2 (fun W'' h => rfl)⟩
  · intro us W hW hE
    have e92 : us 174 = .bool true := hE.1
    intro K hK
    with_reducible refine stepV1 (.slice (some ⟨g5, o5, none⟩) 2 c5) (W) 92 174 true hsz e92 ?_ ?_ ?_ ?_ ?_
    · rfl
    · kernel_rfl
    · decide
    · exact (ex_move rfl (ev_old (by decide) t11))
    · exact hK _ _ (Below.refl _ _) (fun W'' h => rfl)
  · intro us W hW hE
    have e92 : us 174 = .bool true := hE.1
    have e95 : us 177 = .slice (some ⟨g5, o5, none⟩) 2 c5 := hE.2.1
    intro K hK
    with_reducible refine stepV1 (.slice A51 1 c5) (W) 92 174 true hsz e92 ?_ ?_ ?_ ?_ ?_
    · rfl
    · kernel_rfl
    · decide
    · exact ex_sliceH rfl (ev_us hsz (by decide) e95) rfl (hcut1 W)
    · exact hK _ _ (Below.refl _ _) (fun W'' h => rfl)
  · intro us W hW hE
    have e92 : us 174 = .bool true := hE.1
    have e96 : us 178 = .slice A51 1 c5 := hE.2.2.1
    intro K hK
    with_reducible refine stepC1 (22) (#[.slice A51 1 c5]) 92 174 true hsz e92 ?_ ?_ ?_ ?_ ?_
    · rfl
    · kernel_rfl
    · decide
    · exact (ex_fn1 rfl rfl (ev_us hsz (by decide) e96) (cf22 _ _))
    · refine Calls.mono (chain_ok A51 1 c5 (ys5.take 1) W (hE51 W (hE5.below (undrew hW))) (by decide) (fun y hy => hv5 y (List.mem_of_mem_take hy)) H1 hH1) ?_
      rintro e w2 ⟨rfl, hB2⟩
      exact ⟨_, rfl, hK _ _ hB2 (fun W'' h => rfl)⟩
  · intro us W hW hE
    have e92 : us 174 = .bool true := hE.1
    have e94 : us 176 = .int .u32 (H2 : Nat) := hE.2.1
    have e97 : us 179 = .int .u32 (H1 : Nat) := hE.2.2.1
    intro K hK
    with_reducible refine stepV1 (.bool true) (W) 92 174 true hsz e92 ?_ ?_ ?_ ?_ ?_
    · rfl
    · kernel_rfl
    · decide
    · exact ex_cmp rfl (ev_us hsz (by decide) e94) (ev_us hsz (by decide) e97) (neq_int hne)
    · exact hK _ _ (Below.refl _ _) (fun W'' h => rfl)
  · intro us W hW hE
    have e92 : us 174 = .bool true := hE.1
    have e98 : us 180 = .bool true := hE.2.1
    intro K hK
    with_reducible refine stepV0 (.bool true) (W) ?_ ?_ ?_
    · rfl
    · exact (ex_pick_t rfl (ev_us hsz (by decide) e92) (ev_us hsz (by decide) e98))
    · exact hK _ _ (Below.refl _ _) (fun W'' h => rfl)
  · intro us W hW hE
    have e99 : us 181 = .bool true := hE.2.2.2.2.2.2.2.2.2.2.2.2.2.2.2.2.2.2.2.2.2.2.2.2.2.2.2.2.2.2.2.2.2.2.2.2.2.2.2.2.2.2.2.2.2.2.2.2.2.2.2.2.2.2.2.2.2.2.2.2.2.2.2.2.2.2.2.2.2.2.2.2.2.2.2.2.2.2.2.2.2.2.2.2.2.2.2.2.2.2.2.2.2.2.2.2.2.2.2.1
    intro K hK
    with_reducible refine stepV0 (.bool true) (W) ?_ ?_ ?_
    · rfl
    · exact (ex_assign rfl (ev_us hsz (by decide) e99))
    · exact hK _ _ (Below.refl _ _) (fun W'' h => rfl)
  · intro us W hW hE
    have h100 : us 0 = .bool true := AllF.get hE 100 (x := (0, sanD.erase 0, [(0, 82), (1, 83), (2, 84), (3, 85), (4, 86), (5, 87), (6, 88), (7, 89), (8, 90), (9, 91), (10, 92), (11, 93), (12, 94), (13, 95), (14, 96), (15, 97), (16, 98), (17, 99), (18, 100), (19, 101), (20, 102), (21, 103), (22, 104), (23, 105), (24, 106), (25, 107), (26, 108), (27, 109), (28, 110), (29, 111), (30, 112), (31, 113), (32, 114), (33, 115), (34, 116), (35, 117), (36, 118), (37, 119), (38, 120), (39, 121), (40, 122), (41, 123), (42, 124), (43, 125), (44, 126), (45, 127), (46, 128), (47, 129), (48, 130), (49, 131), (50, 132), (51, 133), (52, 134), (53, 135), (54, 136), (55, 137), (56, 138), (57, 139), (58, 140), (59, 141), (60, 142), (61, 143), (62, 144), (63, 145), (64, 146), (65, 147), (66, 148), (67, 149), (68, 150), (69, 151), (70, 152), (71, 153), (72, 154), (73, 155), (74, 156), (75, 157), (76, 158), (77, 159), (78, 160), (79, 161), (80, 162), (81, 163), (82, 164), (83, 165), (84, 166), (85, 167), (86, 168), (87, 169), (88, 170), (89, 171), (90, 172), (91, 173), (92, 174), (93, 175), (94, 176), (95, 177), (96, 178), (97, 179), (98, 180), (99, 181)])) (by kernel_rfl)
    clear hE
    refine hK0 _ _ (wp_ret (hq _ _ ?_ hdf (below_then hbw (undrew hW))))
    with_reducible refine fill_at hsz ?_ h100
    kernel_rfl
end Go.Proofs.YtcohgkiloaapcaaDoor

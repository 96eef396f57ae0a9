/- Contracts: the laws' sanity. PRINTED BY gen_sanity2.py. -/
import Derived.Test.YtcohgkiloaapcaaDoorK1
import Derived.Lib.SlBytesConst
import Derived.Deep.Cut
namespace Go.Proofs.YtcohgkiloaapcaaDoor
open Go.RowKit

theorem es_some {w : World} {A : Option Addr} {n c : Nat} {ys : List Rec} (h : Es w A n c ys) (hn : 0 < n) : ∃ g o, A = some ⟨g, o, none⟩ := by
  obtain ⟨b, o, e, _⟩ := es_range h hn
  exact ⟨b, o, e⟩

set_option maxRecDepth 100000 in
set_option maxHeartbeats 4000000 in
theorem san_s2 (w W0 : World) (Q : Exit → Act → World → Prop) (b0 b1 : Nat) (A1 A2 A4 A5 : Option Addr) (c1 c2 c4 c5 : Nat) (ys5 : List Rec) (u14 u15 u16 u17 u18 u19 u20 u21 u22 u23 u24 u25 u26 u27 u28 u29 u30 u31 u32 u33 u34 u35 u36 u37 u38 u39 u40 u41 u42 u43 u44 u45 u46 u47 u48 u49 u50 u51 u52 u53 u54 u55 u56 u57 u58 u59 u60 u61 u62 u63 u64 u65 u66 u67 u68 u69 u70 u71 u72 u73 u74 u75 u76 u77 u78 u79 u80 u81 u82 u83 u84 u85 u86 u87 u88 u89 u90 u91 u92 u93 u94 u95 u96 u97 u98 u99 u100 u101 u102 u103 u104 u105 u106 u107 u108 u109 u110 u111 u112 u113 u114 u115 u116 u117 u118 u119 u120 u121 u122 u123 u124 u125 u126 u127 u128 u129 u130 u131 u132 u133 u134 u135 u136 u137 u138 u139 u140 u141 u142 u143 u144 u145 u146 u147 u148 u149 u150 u151 u152 u153 u154 u155 u156 u157 u158 u159 u160 u161 u162 u163 u164 u165 u166 u167 u168 u169 u170 u171 u172 u173 u174 u175 u176 u177 u178 u179 u180 u181 : Value)
    (hbw : Below w.heap.size w W0) (h1 : Bs W0 A1 13 c1 sL1) (hb : Bs W0 (some ⟨b0, 0, none⟩) 1 1 [98]) (hrc : W0.rangeAt b1 0 [.int .i64 1, .string (strOf [97]), .slice (some ⟨b0, 0, none⟩) 1 1]) (hg : GOk W0) (h2 : Bs W0 A2 25 c2 sL2) (hE5 : Es W0 A5 2 c5 ys5) (hy5 : Hid (ys5.map (·.E) = [sE1, sE2]))
    (hq : ∀ (a' : Act) (W' : World), a'.tmps.getD 0 undef = .bool true → a'.defers = [] → Below w.heap.size w W' → Q .ret a' W')
    (K : Act → World → Prop) (hK : ∀ (a' : Act) (W' : World), (sT 9).wp Tryd.prog Q a' W' → K a' W') :
    (headC (sT 8)).wp Tryd.prog (Exit.then K Q) ⟨((.bool false) :: (.pointer (some ⟨b1, 0, none⟩)) :: (.slice A1 13 c1) :: (.int .i64 0) :: (.slice none 0 0) :: (.int .i64 1) :: (.slice A2 25 c2) :: (.int .i64 0) :: (.slice A4 0 c4) :: (.int .i64 0) :: (.int .i64 271) :: (.slice A5 2 c5) :: (.int .i64 25) :: (.int .i64 0) :: u14 :: u15 :: u16 :: u17 :: u18 :: u19 :: u20 :: u21 :: u22 :: u23 :: u24 :: u25 :: u26 :: u27 :: u28 :: u29 :: u30 :: u31 :: u32 :: u33 :: u34 :: u35 :: u36 :: u37 :: u38 :: u39 :: u40 :: u41 :: u42 :: u43 :: u44 :: u45 :: u46 :: u47 :: u48 :: u49 :: u50 :: u51 :: u52 :: u53 :: u54 :: u55 :: u56 :: u57 :: u58 :: u59 :: u60 :: u61 :: u62 :: u63 :: u64 :: u65 :: u66 :: u67 :: u68 :: u69 :: u70 :: u71 :: u72 :: u73 :: u74 :: u75 :: u76 :: u77 :: u78 :: u79 :: u80 :: u81 :: u82 :: u83 :: u84 :: u85 :: u86 :: u87 :: u88 :: u89 :: u90 :: u91 :: u92 :: u93 :: u94 :: u95 :: u96 :: u97 :: u98 :: u99 :: u100 :: u101 :: u102 :: u103 :: u104 :: u105 :: u106 :: u107 :: u108 :: u109 :: u110 :: u111 :: u112 :: u113 :: u114 :: u115 :: u116 :: u117 :: u118 :: u119 :: u120 :: u121 :: u122 :: u123 :: u124 :: u125 :: u126 :: u127 :: u128 :: u129 :: u130 :: u131 :: u132 :: u133 :: u134 :: u135 :: u136 :: u137 :: u138 :: u139 :: u140 :: u141 :: u142 :: u143 :: u144 :: u145 :: u146 :: u147 :: u148 :: u149 :: u150 :: u151 :: u152 :: u153 :: u154 :: u155 :: u156 :: u157 :: u158 :: u159 :: u160 :: u161 :: u162 :: u163 :: u164 :: u165 :: u166 :: u167 :: u168 :: u169 :: u170 :: u171 :: u172 :: u173 :: u174 :: u175 :: u176 :: u177 :: u178 :: u179 :: u180 :: u181 :: [] : List Value).toArray, []⟩ W0 := by
  have hB0 := below_al W0 (.cells #[] 5)
  have hoE := own_empty W0 5 1
  have hsz0 : (W0.alloc (.cells #[] 5)).heap.size = W0.heap.size + 1 := by simp
  have hx : bits .xor .u8 0 1 = 1 := by decide
  have H1 := Lib.hid h1
  have H2 := Lib.hid h2
  have HB := Lib.hid hb
  have HR := Lib.hid hrc
  have HW := Lib.hid hbw
  have HG := Lib.hid hg
  have HE5 := Lib.hid hE5
  have hrd2 := h2.rd
  clear h1 h2 hb hrc hbw hg hE5
  conv => arg 2; whnf
  conv at hK => enter [a', W', 1, 2]; whnf
  go_wp2_with (at_builtin; refine wpList_of_append rfl _ _ 22 rfl rfl rfl (run_own W0 _ 22 22 5 (.int .u8 0) 1 1 Tryd.underlying22 info5 rfl (by decide) (by decide) _ _ _ hoE hB0 _ _ _ (bys sL2) (by rw [bys_length, sL2_len]) (hrd2.below hB0) (bys_one _) (by decide)) ?_)
  intro v1 w1 hown1 hB1
  obtain ⟨A6, c6, rfl, hle6, hmx6⟩ := own_shape hown1
  have hb6 := Bs.own hown1
  obtain ⟨g6, o6, rfl, hc6⟩ := hb6.at_ (by decide)
  have h20 : w1.cell? ⟨g6, o6 + 20, none⟩ = some (.int .u8 0) := by
    have h := hc6 20 (by rw [sL2_len]; decide)
    have e : sL2[20]'(by rw [sL2_len]; decide) = 0 := by
      have := s20
      rw [List.getElem?_eq_getElem (by rw [sL2_len]; decide)] at this
      exact Option.some.inj this
    rw [e] at h
    exact h
  have hfz : w1.frozen? ⟨g6, o6 + 20, none⟩ = false := by
    obtain ⟨g, cap, cur, e1, e2, e3, _⟩ := hown1.2.resolve_left (fun h => by simp at h)
    injection e1 with e1 _ _
    injection e1 with e1
    injection e1 with e1 e1'
    subst e1 e1'
    simp [World.frozen?, e3]
  have hlt6 : W0.heap.size ≤ g6 := (hown1.lt g6 rfl).1
  have hb7 := hb6.set 20 (by decide) 1
  have hB7 : Below W0.heap.size W0 (w1.setCell ⟨g6, o6 + 20, none⟩ (.int .u8 1)) := hB1.setCell (p := ⟨g6, o6 + 20, none⟩) hlt6 _
  have hlw : W0.heap.size ≤ w1.heap.size := hB1.size
  have H7 := Lib.hid hb7
  clear hown1 hb6 hc6 hB1 hb7
  go_wp2_with fail
  have h1 := H1.out.below hB7
  have hg := HG.out.kept hB7
  have hS3 := scan_at (some ⟨g6, o6, none⟩) 25 c6 (sL2.set 20 1) _ H7.out (by decide) hg [sE1] 13 270 1 13 270 sScan3 rfl rfl rfl
  refine hS3.mono ?_
  clear hS3 h1 hg
  rintro e w8 ⟨A7, c7, ys7, rfl, -, -, -, hB8⟩
  have hB08 := hB7.trans (hB8.mono (by simpa using hlw))
  have hg := HG.out.kept hB08
  have hS4 := scan_at none 0 0 [] w8 (Bs.nil _ _ _ (by decide)) (by decide) hg [] 0 0 0 0 0 scan_nil rfl rfl rfl
  have h6 := H7.out.below hB8
  have H6 := Lib.hid h6
  clear hB7 hB8 hg h6 H7
  go_wp2_with fail
  refine hS4.mono ?_
  clear hS4
  rintro e w9 ⟨A8, c8, ys8, rfl, -, -, -, hB9⟩
  have hB := below_then hB08 hB9
  have H6 := Lib.hid (H6.out.below hB9)
  clear hB08 hB9
  go_upto_region 13 with (fail)
  obtain ⟨g5, o5, rfl⟩ := es_some HE5.out (by decide)
  exact san_tail w w9 _ Q rfl rfl b0 b1 A1 A2 A4 _ A7 A8 g5 o5 c1 c2 c4 c5 c6 c7 c8 ys5 rfl rfl rfl rfl rfl rfl rfl rfl rfl rfl rfl rfl rfl rfl rfl rfl rfl rfl rfl
    (below_then HW.out hB) (H1.out.below hB) H6.out (HE5.out.below hB) hy5.out (HB.out.below hB) (range_below HR.out hB) (HG.out.kept hB) hq _ (by assumption)

set_option maxRecDepth 100000 in
set_option maxHeartbeats 4000000 in
theorem san_s1 (w W0 : World) (Q : Exit → Act → World → Prop) (b0 b1 : Nat) (A1 : Option Addr) (c1 : Nat) (u6 u7 u8 u9 u10 u11 u12 u13 u14 u15 u16 u17 u18 u19 u20 u21 u22 u23 u24 u25 u26 u27 u28 u29 u30 u31 u32 u33 u34 u35 u36 u37 u38 u39 u40 u41 u42 u43 u44 u45 u46 u47 u48 u49 u50 u51 u52 u53 u54 u55 u56 u57 u58 u59 u60 u61 u62 u63 u64 u65 u66 u67 u68 u69 u70 u71 u72 u73 u74 u75 u76 u77 u78 u79 u80 u81 u82 u83 u84 u85 u86 u87 u88 u89 u90 u91 u92 u93 u94 u95 u96 u97 u98 u99 u100 u101 u102 u103 u104 u105 u106 u107 u108 u109 u110 u111 u112 u113 u114 u115 u116 u117 u118 u119 u120 u121 u122 u123 u124 u125 u126 u127 u128 u129 u130 u131 u132 u133 u134 u135 u136 u137 u138 u139 u140 u141 u142 u143 u144 u145 u146 u147 u148 u149 u150 u151 u152 u153 u154 u155 u156 u157 u158 u159 u160 u161 u162 u163 u164 u165 u166 u167 u168 u169 u170 u171 u172 u173 u174 u175 u176 u177 u178 u179 u180 u181 : Value)
    (hbw : Below w.heap.size w W0) (h1 : Bs W0 A1 13 c1 sL1) (hb : Bs W0 (some ⟨b0, 0, none⟩) 1 1 [98]) (hrc : W0.rangeAt b1 0 [.int .i64 1, .string (strOf [97]), .slice (some ⟨b0, 0, none⟩) 1 1]) (hg : GOk W0)
    (hq : ∀ (a' : Act) (W' : World), a'.tmps.getD 0 undef = .bool true → a'.defers = [] → Below w.heap.size w W' → Q .ret a' W')
    (K : Act → World → Prop) (hK : ∀ (a' : Act) (W' : World), (sT 5).wp Tryd.prog Q a' W' → K a' W') :
    (headC (sT 4)).wp Tryd.prog (Exit.then K Q) ⟨((.bool false) :: (.pointer (some ⟨b1, 0, none⟩)) :: (.slice A1 13 c1) :: (.int .i64 0) :: (.slice none 0 0) :: (.int .i64 1) :: u6 :: u7 :: u8 :: u9 :: u10 :: u11 :: u12 :: u13 :: u14 :: u15 :: u16 :: u17 :: u18 :: u19 :: u20 :: u21 :: u22 :: u23 :: u24 :: u25 :: u26 :: u27 :: u28 :: u29 :: u30 :: u31 :: u32 :: u33 :: u34 :: u35 :: u36 :: u37 :: u38 :: u39 :: u40 :: u41 :: u42 :: u43 :: u44 :: u45 :: u46 :: u47 :: u48 :: u49 :: u50 :: u51 :: u52 :: u53 :: u54 :: u55 :: u56 :: u57 :: u58 :: u59 :: u60 :: u61 :: u62 :: u63 :: u64 :: u65 :: u66 :: u67 :: u68 :: u69 :: u70 :: u71 :: u72 :: u73 :: u74 :: u75 :: u76 :: u77 :: u78 :: u79 :: u80 :: u81 :: u82 :: u83 :: u84 :: u85 :: u86 :: u87 :: u88 :: u89 :: u90 :: u91 :: u92 :: u93 :: u94 :: u95 :: u96 :: u97 :: u98 :: u99 :: u100 :: u101 :: u102 :: u103 :: u104 :: u105 :: u106 :: u107 :: u108 :: u109 :: u110 :: u111 :: u112 :: u113 :: u114 :: u115 :: u116 :: u117 :: u118 :: u119 :: u120 :: u121 :: u122 :: u123 :: u124 :: u125 :: u126 :: u127 :: u128 :: u129 :: u130 :: u131 :: u132 :: u133 :: u134 :: u135 :: u136 :: u137 :: u138 :: u139 :: u140 :: u141 :: u142 :: u143 :: u144 :: u145 :: u146 :: u147 :: u148 :: u149 :: u150 :: u151 :: u152 :: u153 :: u154 :: u155 :: u156 :: u157 :: u158 :: u159 :: u160 :: u161 :: u162 :: u163 :: u164 :: u165 :: u166 :: u167 :: u168 :: u169 :: u170 :: u171 :: u172 :: u173 :: u174 :: u175 :: u176 :: u177 :: u178 :: u179 :: u180 :: u181 :: [] : List Value).toArray, []⟩ W0 := by
  have hC := append_rec A1 13 c1 sL1 ⟨sE2, none, 0, 0, 0, none⟩ _ h1 (by decide) (Bs.nil _ _ _ (by decide)) vE2 sL2 (by rfl)
  conv => arg 2; whnf
  conv at hK => enter [a', W', 1, 2]; whnf
  go_wp2_with fail
  refine hC.mono ?_
  clear hC
  rintro e wC ⟨A2, n2, c2, rfl, hL2, hBC, hoC⟩
  obtain rfl : n2 = 25 := by have := hL2.out; have := sL2_len; omega
  have h2 := Bs.own hoC
  have hbw := below_then hbw hBC
  have h1 := h1.below hBC
  have hb := hb.below hBC
  have hrc := range_below hrc hBC
  have hg := hg.kept hBC
  clear hL2 hoC hBC
  obtain ⟨A3, hrun3, htr3⟩ := cut_h (P := Tryd.prog) 22 5 Tryd.underlying22 info5 A1 13 c1 12 12 rfl (by decide) h1.le
  have hS1 := scan_at A3 12 c1 _ wC (htr3 _ _ h1) (by decide) hg [] 0 271 0 0 271 sScan1 rfl rfl rfl
  go_wp2_with fail
  refine hS1.mono ?_
  clear hS1 hrun3 htr3
  rintro e wD ⟨A4, c4, ys4, rfl, -, -, -, hBD⟩
  have hbw := below_then hbw hBD
  have h1 := h1.below hBD
  have hb := hb.below hBD
  have hrc := range_below hrc hBD
  have hg := hg.kept hBD
  have h2 := h2.below hBD
  have hS2 := scan_at A2 25 c2 _ wD h2 (by decide) hg [sE1, sE2] 25 0 2 25 0 sScan2 rfl rfl rfl
  clear hBD
  go_wp2_with fail
  refine hS2.mono ?_
  clear hS2
  rintro e wE ⟨A5, c5, ys5, rfl, hy5, hE5, -, hBE⟩
  have hbw := below_then hbw hBE
  have h1 := h1.below hBE
  have hb := hb.below hBE
  have hrc := range_below hrc hBE
  have hg := hg.kept hBE
  have h2 := h2.below hBE
  clear hBE
  go_upto_region 9 with (fail)
  exact san_s2 w wE Q b0 b1 A1 A2 A4 A5 c1 c2 c4 c5 ys5 _ _ _ _ _ _ _ _ _ _ _ _ _ _ _ _ _ _ _ _ _ _ _ _ _ _ _ _ _ _ _ _ _ _ _ _ _ _ _ _ _ _ _ _ _ _ _ _ _ _ _ _ _ _ _ _ _ _ _ _ _ _ _ _ _ _ _ _ _ _ _ _ _ _ _ _ _ _ _ _ _ _ _ _ _ _ _ _ _ _ _ _ _ _ _ _ _ _ _ _ _ _ _ _ _ _ _ _ _ _ _ _ _ _ _ _ _ _ _ _ _ _ _ _ _ _ _ _ _ _ _ _ _ _ _ _ _ _ _ _ _ _ _ _ _ _ _ _ _ _ _ _ _ _ _ _ _ _ _ _ _ _ _ _ _ _ _ _ hbw h1 hb hrc hg h2 hE5 hy5 hq _ (by assumption)

set_option maxRecDepth 100000 in
set_option maxHeartbeats 4000000 in
theorem sanity_ok (w : World) (hG : GOk w) : Calls Tryd.prog 11 #[] w fun e w' => e = .returned (.bool true) ∧ Below w.heap.size w w' := by
  have kc := fun (w : World) (C : Array Value) (n c : Nat) => Lib.run_convert_bytes_const (P := Tryd.prog) w 22 5 C n c Tryd.underlying22 Tryd.underlying5
  have hB1 : Below w.heap.size w ((w.alloc (.cells #[.int .u8 98] 5 (1, 2))).alloc (.cells #[.int .i64 1, .string ⟨#[97]⟩, .slice (some ⟨w.heap.size, 0, none⟩) 1 1] 25)) := below_then (below_al w _) (below_al _ _)
  have hb1 : Bs ((w.alloc (.cells #[.int .u8 98] 5 (1, 2))).alloc (.cells #[.int .i64 1, .string ⟨#[97]⟩, .slice (some ⟨w.heap.size, 0, none⟩) 1 1] 25)) (some ⟨w.heap.size, 0, none⟩) 1 1 [98] :=
    bs_block [98] 1 (al_at (al_last w (.cells #[.int .u8 98] 5 (1, 2)) rfl)) rfl (by decide) (by decide)
  have hcell : ((w.alloc (.cells #[.int .u8 98] 5 (1, 2))).alloc (.cells #[.int .i64 1, .string ⟨#[97]⟩, .slice (some ⟨w.heap.size, 0, none⟩) 1 1] 25)).heap[w.heap.size + 1]? = some (.cells #[.int .i64 1, .string ⟨#[97]⟩, .slice (some ⟨w.heap.size, 0, none⟩) 1 1] 25) := al_last _ _ (by simp)
  have hrc : ((w.alloc (.cells #[.int .u8 98] 5 (1, 2))).alloc (.cells #[.int .i64 1, .string ⟨#[97]⟩, .slice (some ⟨w.heap.size, 0, none⟩) 1 1] 25)).rangeAt (w.heap.size + 1) 0 [.int .i64 1, .string (strOf [97]), .slice (some ⟨w.heap.size, 0, none⟩) 1 1] := World.rangeAt_of_block hcell 0 3
  have hA := append_rec none 0 0 [] ⟨sE1, some ⟨w.heap.size, 0, none⟩, 1, 1, 0, none⟩ _ (Bs.nil _ _ _ (by decide)) (by decide) hb1 vE1 sL1 (List.nil_append (recB (encEn sE1))).symm
  refine calls_of_wp Tryd.func11 rfl ?_
  have hfr : ({ tmps := #[] ++ Array.replicate (Tryd.f11.ntmps - (#[] : Array Value).size) undef, defers := [] } : Act) = ⟨(undef :: undef :: undef :: undef :: undef :: undef :: undef :: undef :: undef :: undef :: undef :: undef :: undef :: undef :: undef :: undef :: undef :: undef :: undef :: undef :: undef :: undef :: undef :: undef :: undef :: undef :: undef :: undef :: undef :: undef :: undef :: undef :: undef :: undef :: undef :: undef :: undef :: undef :: undef :: undef :: undef :: undef :: undef :: undef :: undef :: undef :: undef :: undef :: undef :: undef :: undef :: undef :: undef :: undef :: undef :: undef :: undef :: undef :: undef :: undef :: undef :: undef :: undef :: undef :: undef :: undef :: undef :: undef :: undef :: undef :: undef :: undef :: undef :: undef :: undef :: undef :: undef :: undef :: undef :: undef :: undef :: undef :: undef :: undef :: undef :: undef :: undef :: undef :: undef :: undef :: undef :: undef :: undef :: undef :: undef :: undef :: undef :: undef :: undef :: undef :: undef :: undef :: undef :: undef :: undef :: undef :: undef :: undef :: undef :: undef :: undef :: undef :: undef :: undef :: undef :: undef :: undef :: undef :: undef :: undef :: undef :: undef :: undef :: undef :: undef :: undef :: undef :: undef :: undef :: undef :: undef :: undef :: undef :: undef :: undef :: undef :: undef :: undef :: undef :: undef :: undef :: undef :: undef :: undef :: undef :: undef :: undef :: undef :: undef :: undef :: undef :: undef :: undef :: undef :: undef :: undef :: undef :: undef :: undef :: undef :: undef :: undef :: undef :: undef :: undef :: undef :: undef :: undef :: undef :: undef :: undef :: undef :: undef :: undef :: undef :: undef :: undef :: undef :: undef :: undef :: undef :: undef :: [] : List Value).toArray, []⟩ := by kernel_rfl
  rw [hfr]
  clear hfr
  go_wp2_with fail
  refine hA.mono ?_
  clear hA hcell
  rintro e wA ⟨A1, n1, c1, rfl, hL1, hBA, hoA⟩
  obtain rfl : n1 = 13 := by have := hL1.out; have := sL1_len; omega
  have h1 := Bs.own hoA
  have hbw := below_then hB1 hBA
  have hb := hb1.below hBA
  have hrc := range_below hrc hBA
  clear hL1 hoA hb1 hBA hB1 kc
  go_wp2_with fail
  refine (append_no _ _ _ _ _ _ _ _ _ (by decide)).mono ?_
  rintro e wB ⟨rfl, hBB⟩
  have h1 := h1.below hBB
  have hbw := below_then hbw hBB
  have hb := hb.below hBB
  have hrc := range_below hrc hBB
  have hg := hG.kept hbw
  clear hBB
  go_upto_region 4 with (fail)
  refine san_s1 w wB _ _ _ A1 c1 _ _ _ _ _ _ _ _ _ _ _ _ _ _ _ _ _ _ _ _ _ _ _ _ _ _ _ _ _ _ _ _ _ _ _ _ _ _ _ _ _ _ _ _ _ _ _ _ _ _ _ _ _ _ _ _ _ _ _ _ _ _ _ _ _ _ _ _ _ _ _ _ _ _ _ _ _ _ _ _ _ _ _ _ _ _ _ _ _ _ _ _ _ _ _ _ _ _ _ _ _ _ _ _ _ _ _ _ _ _ _ _ _ _ _ _ _ _ _ _ _ _ _ _ _ _ _ _ _ _ _ _ _ _ _ _ _ _ _ _ _ _ _ _ _ _ _ _ _ _ _ _ _ _ _ _ _ _ _ _ _ _ _ _ _ _ _ _ _ _ _ _ _ _ _ _ hbw h1 hb hrc hg ?_ _ (by assumption)
  intro a' W' h0 hd hB
  exact bodyPost_ret (by rw [results_tmp rfl, h0]) hd ⟨rfl, hB⟩
end Go.Proofs.YtcohgkiloaapcaaDoor

/- Contracts: crcTable, Checksum. -/
import Derived.Test.YtcohgkiloaapcaaDoorC2
import Derived.Test.YtcohgkiloaapcaaDoorM1
import Derived.Deep.MidRow
namespace Go.Proofs.YtcohgkiloaapcaaDoor
open Go.RowKit

theorem info93 : (Tryd.prog.info? 93).map (·.size) = some 256 := by kernel_rfl
theorem z93 : Tryd.zeroCells93.size = 256 := by kernel_rfl

theorem zat : ∀ j : Nat, j < 256 → Tryd.zeroCells93[j]? = some (.int .u32 0) := by
  have h : Tryd.zeroCells93 = Array.replicate 256 (.int .u32 0) := by kernel_rfl
  intro j hj
  rw [h]
  simp [hj]

def TabAt (wr : World) (B k : Nat) : Prop := ∃ cur : Array Value, wr.heap[B]? = some (.cells cur 93 (0, 0)) ∧ cur.size = 256 ∧ (∀ j : Nat, j < 256 → ∃ x : Int, cur[j]? = some (.int .u32 x)) ∧ ∀ i : Nat, i < k → cur[i]? = some (.int .u32 (crcT i : Nat))

theorem setCells_below {B : Nat} {w : World} (b : Nat) (hb : B ≤ b) : ∀ (vs : List Value) (o : Nat) (W : World), Below B w W → Below B w (W.setCells b o vs)
  | [], _, _, h => h
  | v :: vs, o, W, h => setCells_below b hb vs (o + 1) _ (h.setCell (p := ⟨b, o, none⟩) hb v)

theorem results_cell_mid {P : Program} {fn : Func} {p : Tmp} {ty : TypeId} (h : fn.results = #[.cell p ty]) (tmps : Array Value) (w : World) (b o : Nat) (cs : List Value) (d : TypeDesc)
    (hp : tmps.getD p undef = .pointer (some ⟨b, o, none⟩)) (hc : w.rangeAt b o cs)
    (hu : P.underlying ty = some d) (hd : d.isRow = true) (hi : (P.info? ty).map (·.size) = some cs.length) :
    (results fn tmps).run P w = .ok (.agg cs.toArray) w := by
  have hp' : tmps[p]?.getD undef = .pointer (some ⟨b, o, none⟩) := by simpa using hp
  simp [results, h, hp', asAddr, run_loadVar_mid w b o ty cs d hc hu hd hi]

theorem step_bits (c : Nat) (hc : c < 4294967296) : bits .xor .u32 ((c : Int) / 2) (3988292384 * bits .and .u32 (c : Int) 1 % 4294967296) = (crcStep c : Nat) := by
  have h1 := and32 c 1 hc (by decide)
  rw [show (1 : Int) = ((1 : Nat) : Int) from rfl, h1, Nat.and_one_is_mod]
  have h2 : (3988292384 * ((c % 2 : Nat) : Int) % 4294967296) = ((3988292384 * (c % 2) : Nat) : Int) := by omega
  rw [h2, show (c : Int) / 2 = ((c / 2 : Nat) : Int) by omega]
  exact xor32 _ _ (by omega) (by omega)

def IsTab (v : Value) : Prop := ∃ cs : List Value, v = .agg cs.toArray ∧ cs.length = 256 ∧ (∀ v ∈ cs, v.oneCell' = true) ∧ ∀ i : Nat, i < 256 → cs[i]? = some (.int .u32 (crcT i : Nat))

set_option maxRecDepth 100000 in
theorem crcTable_ok (w : World) : Calls Tryd.prog 53 #[] w fun e w' => (∃ v, e = .returned v ∧ IsTab v) ∧ Below w.heap.size w w' := by
  go_enter Tryd.func53, Tryd.ntmps53
  go_wp2_with fail
  go_loopw [4] (fun i wr => ∃ k : Nat, k ≤ 256 ∧ i = .int .i64 k ∧ TabAt wr (w.heap.size + 1) k ∧ Below w.heap.size w wr ∧ wr.heap[w.heap.size]? = some (.cells Tryd.zeroCells93 93 (0, 0))) (fun i _ => 256 - (intOf i).toNat)
  case atStart =>
    refine ⟨0, by omega, rfl, ⟨Tryd.zeroCells93, heap_alloc2_new w _ _, z93, fun j hj => ⟨0, zat j hj⟩, fun i hi => absurd hi (Nat.not_lt_zero _)⟩, ?_, heap_alloc2_old w _ _⟩
    exact ((Below.refl _ _).alloc (Nat.le_refl _) _).alloc (by simp) _
  case round =>
    obtain ⟨k, hk, rfl, ⟨cur, hg, hs, hany, hcur⟩, hB, hz⟩ := hrel
    by_cases hlt : k < 256
    · have hw : (k : Int) % 4294967296 = k := by omega
      go_wp2_with fail
      go_loop [3, 9] (fun c j => ∃ n : Nat, n ≤ 8 ∧ j = .int .i64 n ∧ c = .int .u32 (crcN n k : Nat)) (fun _ j => 8 - (intOf j).toNat)
      case atStart => exact ⟨0, by omega, rfl, rfl⟩
      case round =>
        obtain ⟨n, hn, rfl, rfl⟩ := hrel
        have hlt32 : crcN n k < 4294967296 := crcN_lt (by omega) n
        have hst := step_bits (crcN n k) hlt32
        clear hlt32
        by_cases hn8 : n < 8
        · go_wp2_with fail
          go_round
          case rel => exact ⟨n + 1, by omega, by go_num, rfl⟩
          case measure => simp [intOf]; omega
        · obtain rfl : n = 8 := by omega
          obtain ⟨x0, hx0⟩ := hany k hlt
          have hc0 : wr.cell? ⟨w.heap.size + 1, k, none⟩ = some (.int .u32 x0) := (cell_of_row wr _ k cur 93 (0, 0) hg).trans hx0
          have hf0 : wr.frozen? ⟨w.heap.size + 1, k, none⟩ = false := by simp [World.frozen?, hg]
          have HG := Lib.hid hg
          have HC := Lib.hid hcur
          have HA := Lib.hid hany
          have HZ := Lib.hid hz
          clear hg hcur hany hz hx0
          go_wp2_with fail
          go_roundw
          case rel =>
            refine ⟨k + 1, by omega, by go_num, ⟨cur.setIfInBounds k (.int .u32 (crcN 8 k : Nat)), ?_, by simp [hs], fun j hj => ?_, fun i hi => ?_⟩, hB.setCell (p := ⟨w.heap.size + 1, k, none⟩) (by simp) _, ?_⟩
            · exact heap_setCell_same _ _ _ _ _ _ HG.out
            · by_cases hjk : k = j
              · subst hjk; exact ⟨(crcN 8 k : Nat), by simp [hs, hlt]⟩
              · obtain ⟨x, hx⟩ := HA.out j hj
                exact ⟨x, by rw [Array.getElem?_setIfInBounds_ne hjk]; exact hx⟩
            · by_cases hjk : k = i
              · subst hjk; simp [hs, hlt, crcT]
              · rw [Array.getElem?_setIfInBounds_ne hjk]; exact HC.out i (by omega)
            · rw [heap_setCell_other _ _ _ _ (by simp)]; exact HZ.out
          case measure => simp [intOf]; omega
    · obtain rfl : k = 256 := by omega
      have hone : ∀ v ∈ cur.toList, v.oneCell' = true := by
        intro v hv
        obtain ⟨j, hj, rfl⟩ := List.getElem_of_mem hv
        have hj' : j < cur.size := by simpa using hj
        have := hcur j (by omega)
        rw [Array.getElem?_eq_getElem hj'] at this
        rw [Array.getElem_toList, Option.some.inj this]
        rfl
      have hthere : wr.there w.heap.size 0 cur.size := by
        intro j hj
        refine ⟨?_, by simp [World.frozen?, hz]⟩
        rw [cell_of_row wr _ _ _ 93 (0, 0) hz, Nat.zero_add, zat j (by omega)]
        rfl
      have hi93 : (Tryd.prog.info? 93).map (·.size) = some cur.size := by rw [hs]; exact info93
      have HG := Lib.hid hg
      have HC := Lib.hid hcur
      have HS := Lib.hid hs
      clear hcur hany hz hs
      go_wp2_with (first | (refine wpList_load_row rfl 93 _ rfl _ rfl 93 cur (0, 0) _ hg Tryd.underlying93 rfl hi93 ?_) | (refine wpList_store_mid rfl 93 _ _ rfl w.heap.size 0 cur rfl rfl hthere hi93 (by have := all_oneCell_toArray hone; simpa using this) ?_))
      refine bodyPost_ret (results_cell_mid rfl _ _ w.heap.size 0 cur.toList _ rfl (World.rangeAt_setCells_same _ _ _ _ (by simpa using hthere)) Tryd.underlying93 rfl (by simpa using hi93)) rfl ?_
      refine ⟨⟨_, rfl, cur.toList, rfl, by simpa using HS.out, hone, fun i hi => by rw [Array.getElem?_toList]; exact HC.out i hi⟩, setCells_below _ (Nat.le_refl _) _ _ _ hB⟩

theorem up_bits (c x : Nat) (hc : c < 4294967296) (hx : x < 256) : bits .xor .u32 ((c : Int) / 256) (crcT ((c % 256) ^^^ x) : Nat) = (crcUp c x : Nat) := by
  rw [show (c : Int) / 256 = ((c / 256 : Nat) : Int) by omega]
  exact xor32 _ _ (by omega) (crcT_lt (xor256 (by omega) hx))
theorem ix_bits (c x : Nat) (hx : x < 256) : bits .xor .u8 ((c : Int) % 256) (x : Int) = (((c % 256) ^^^ x : Nat) : Int) := by
  rw [show (c : Int) % 256 = ((c % 256 : Nat) : Int) by omega]
  exact xor8 _ _ (by omega) hx

theorem there_new (w : World) : (w.alloc (.cells Tryd.zeroCells93 93)).there w.heap.size 0 256 := by
  intro j hj
  have hz := heap_alloc_new w (.cells Tryd.zeroCells93 93)
  refine ⟨?_, by simp only [World.frozen?, hz]; simp⟩
  rw [cell_of_row _ _ _ _ 93 (0, 0) hz, Nat.zero_add, zat j (by omega)]
  rfl

set_option maxRecDepth 100000 in
theorem checksum (A : Option Addr) (n c : Nat) (xs : List UInt8) (w : World) (hb : Bs w A n c xs) (hn : n ≤ 1000000000) :
    Calls Tryd.prog 36 #[.slice A n c] w fun e w' => e = .returned (.int .u32 (crc xs : Nat)) ∧ Below w.heap.size w w' := by
  have hlen := Lib.hid hb.len
  go_enter Tryd.func36, Tryd.ntmps36
  go_wp2_with (first | (go_at_call 53; go_must (refine (crcTable_ok _).mono ?_); rintro e w1 ⟨⟨v, rfl, cs, rfl, hcl, hone, hcs⟩, hB⟩; have hth := there_new w1; rw [← hcl] at hth; have hi93 : (Tryd.prog.info? 93).map (·.size) = some cs.length := (by rw [hcl]; exact info93)) | (refine wpList_store_mid rfl 93 _ _ rfl w1.heap.size 0 cs.toArray rfl rfl (by simpa using hth) (by simpa using hi93) (all_oneCell_toArray hone) ?_))
  have hB1 : Below w.heap.size w ((w1.alloc (.cells Tryd.zeroCells93 93)).setCells w1.heap.size 0 cs) := setCells_below _ hB.size _ _ _ (hB.alloc hB.size _)
  have hra : ∀ i : Nat, i < 256 → ((w1.alloc (.cells Tryd.zeroCells93 93)).setCells w1.heap.size 0 cs).cell? ⟨w1.heap.size, i, none⟩ = some (.int .u32 (crcT i : Nat)) := by
    intro i hi
    have := World.rangeAt_setCells_same (w1.alloc (.cells Tryd.zeroCells93 93)) w1.heap.size 0 cs hth i _ (hcs i hi)
    simpa using this
  have hb' := hb.below hB1
  have HR := Lib.hid hra
  generalize (w1.alloc (.cells Tryd.zeroCells93 93)).setCells w1.heap.size 0 cs = w2 at *
  clear hB hcs hone hth hi93 hcl hb hra
  go_loop [4, 10] (fun c i => ∃ k : Nat, k ≤ n ∧ i = .int .i64 k ∧ c = .int .u32 (crcAll 4294967295 (xs.take k) : Nat)) (fun _ i => n - (intOf i).toNat)
  case atStart => exact ⟨0, by omega, rfl, by simp [crcAll]⟩
  case round =>
    obtain ⟨k, hk, rfl, rfl⟩ := hrel
    have hc := crcAll_lt (xs.take k) (c := 4294967295) (by decide)
    by_cases hlt : k < n
    · have hk' : k < xs.length := by rw [hlen.out]; exact hlt
      obtain ⟨b, o, rfl, hcell⟩ := hb'.at_ (by omega)
      have hx := hcell k hk'
      have hix := ix_bits (crcAll 4294967295 (xs.take k)) (xs[k].toNat) (xs[k].toNat_lt)
      have htab := HR.out (((crcAll 4294967295 (xs.take k)) % 256) ^^^ xs[k].toNat) (xor256 (by omega) (xs[k].toNat_lt))
      have hup := up_bits (crcAll 4294967295 (xs.take k)) (xs[k].toNat) hc (xs[k].toNat_lt)
      have hir := xor256 (a := (crcAll 4294967295 (xs.take k)) % 256) (b := xs[k].toNat) (by omega) (xs[k].toNat_lt)
      have hsn : crcAll 4294967295 (xs.take (k + 1)) = crcUp (crcAll 4294967295 (xs.take k)) xs[k].toNat := by
        rw [← crcAll_snoc, List.take_succ_eq_append_getElem hk']
      have HS := Lib.hid hsn
      clear hcell hc hsn hb'
      go_wp2_with fail
      go_round
      case rel => exact ⟨k + 1, by omega, by go_num, by rw [HS.out]⟩
      case measure => simp [intOf]; omega
    · obtain rfl : k = n := by omega
      go_wp2_with fail
      go_ret
      have htk : xs.take k = xs := List.take_of_length_le (by rw [hlen.out]; omega)
      rw [htk] at hc ⊢
      refine ⟨ret_int ?_, hB1⟩
      rw [show IntKind.u32.max = ((4294967295 : Nat) : Int) from rfl, xor32 _ _ (by decide) hc, ones_xor _ hc, crc]
end Go.Proofs.YtcohgkiloaapcaaDoor

/- Contracts: the laws' build. -/
import Derived.Test.YtcohgkiloaapcaaDoorI1
import Derived.Test.YtcohgkiloaapcaaDoorL2
namespace Go.Proofs.YtcohgkiloaapcaaDoor
open Go.RowKit

theorem append_rec (A : Option Addr) (n c : Nat) (xs : List UInt8) (y : Rec) (w : World) (hl : Bs w A n c xs) (hn : n ≤ 900000000) (hb : Bs w y.A y.m y.c y.E.body) (hv : VE y.E)
    (zs : List UInt8) (hz : zs = xs ++ recB (encEn y.E)) :
    Calls Tryd.prog 14 #[.slice A n c, .agg #[.int .i64 y.E.kind, .string (strOf y.E.key), .slice y.A y.m y.c]] w (RetB2 5 zs (.int .i64 0) w) := by
  obtain ⟨k, hk, hvk⟩ := hv.kind
  have hlen := hb.len
  rw [hk]
  refine append_yes A n c xs k (strOf y.E.key) y.A y.m y.c y.E.body w hl hn hb (by rw [strOf_size, ← hlen]; exact hvk) zs ?_
  rw [hz, encEn, hk, strB_strOf]
  rfl

/-- What build hands back: the log, and that it went well. -/
def BuildQ (zs : List UInt8) (w : World) (e : Ending) (w' : World) : Prop :=
  ∃ A n c, e = .returned (.tuple #[.slice A n c, .bool true]) ∧ Hid (zs.length = n) ∧ Bs w' A n c zs ∧ Below w.heap.size w w'

set_option maxRecDepth 20000 in
set_option maxHeartbeats 1000000 in
theorem build_ok (A : Option Addr) (n c : Nat) (xs : List UInt8) (B : Option Addr) (m d : Nat) (ys : List Rec) (w : World) (hl : Bs w A n c xs) (hE : Es w B m d ys) (hv : ∀ y, y ∈ ys → VE y.E) (hm : m ≤ 1000000)
    (zs : List UInt8) (hz : zs = xs ++ logB (ys.map (·.E))) (hzl : zs.length ≤ 800000000) :
    Calls Tryd.prog 24 #[.slice A n c, .slice B m d] w (BuildQ zs w) := by
  have hZ := Lib.hid hz
  have hL := Lib.hid hE.len
  clear hz
  go_enter Tryd.func24, Tryd.ntmps24
  go_wp2_with fail
  go_loopw [0, 6] (fun v s wr => ∃ (i : Nat) (A1 : Option Addr) (n1 c1 : Nat), s = .int .i64 i ∧ v = .slice A1 n1 c1 ∧ Bs wr A1 n1 c1 (xs ++ logB ((ys.take i).map (·.E))) ∧ i ≤ m ∧ Below w.heap.size w wr) (fun _ s _ => m - (intOf s).toNat)
  case atStart => exact ⟨0, A, n, c, rfl, rfl, by simpa [logB] using hl, by omega, Below.refl _ _⟩
  case round =>
    obtain ⟨i, A1, n1, c1, rfl, rfl, hb1, hi, hB⟩ := hrel
    by_cases hlt : i < m
    · have hil : i < ys.length := by rw [hL.out]; exact hlt
      obtain ⟨b, o, rfl, hr⟩ := es_range (hE.below hB) (by omega)
      have hri := hr i hil
      have hbi := (hE.bd _ (List.getElem_mem hil)).below hB
      have hvi := hv _ (List.getElem_mem hil)
      have hlti : (i : Int) < m := by omega
      have hst : ys.take (i + 1) = ys.take i ++ [ys[i]] := List.take_succ_eq_append_getElem hil
      have hlen1 := hb1.len
      have hsp : logB (ys.map (·.E)) = logB ((ys.take i).map (·.E)) ++ (recB (encEn ys[i].E) ++ logB ((ys.drop (i + 1)).map (·.E))) := by
        conv => lhs; rw [← List.take_append_drop (i + 1) ys, hst]
        simp only [List.map_append, logB_append, List.map_cons, List.map_nil, logB_one, List.append_assoc]
      have hbnd : n1 + (recB (encEn ys[i].E)).length ≤ 800000000 := by
        have := congrArg List.length (hZ.out)
        rw [hsp] at this
        simp only [List.length_append] at this hlen1
        omega
      have hrl := recB_length' (encEn ys[i].E)
      have HS := Lib.hid (show xs ++ logB ((ys.take (i + 1)).map (·.E)) = (xs ++ logB ((ys.take i).map (·.E))) ++ recB (encEn ys[i].E) by
        rw [hst, List.map_append, logB_append, List.map_cons, List.map_nil, logB_one, List.append_assoc])
      generalize hqs : xs ++ logB ((ys.take i).map (·.E)) = qs at *
      generalize ys[i] = y at *
      unfold newE at hri
      rw [show o + 3 * i = o + i * 3 by omega] at hri
      have hap := append_rec A1 n1 c1 qs y wr hb1 (by omega) hbi hvi _ rfl
      have hln : (qs ++ recB (encEn y.E)).length = n1 + (recB (encEn y.E)).length := by rw [List.length_append, hlen1]
      have HLN := Lib.hid hln
      have HRL := Lib.hid hrl
      have HB := Lib.hid hB
      clear hst hsp hln hrl hqs hlen1 hr hE hv hl hb1 hbi hB
      go_wp2_with (first | ((with_reducible refine load3o b (o + i * 3) y.E.kind (strOf y.E.key) y.A y.m y.c ?_ ?_ ?_); exact rfl; exact hri) | (go_at_call 14; go_must (refine hap.mono ?_); rintro e w1 ⟨A2, n2, c2, rfl, hL2, hB2, hown2⟩; have hgr : n1 < n2 := (by have := hL2.out; have := HLN.out; have := HRL.out; omega)))
      go_roundw
      case rel => exact ⟨i + 1, A2, n2, c2, rfl, rfl, by rw [HS.out]; exact Bs.own hown2, by omega, below_then HB.out hB2⟩
      case measure => simp [intOf]; omega
    · obtain rfl : i = m := by omega
      go_wp2_with fail
      refine bodyPost_ret (results_tmp2 rfl _ _ _) rfl ?_
      have e : zs = xs ++ logB ((ys.take i).map (·.E)) := by rw [hZ.out, List.take_of_length_le (by rw [hL.out]; omega)]
      exact ⟨A1, n1, c1, rfl, Lib.hid (by rw [e]; exact hb1.len), by rw [e]; exact hb1, hB⟩
end Go.Proofs.YtcohgkiloaapcaaDoor

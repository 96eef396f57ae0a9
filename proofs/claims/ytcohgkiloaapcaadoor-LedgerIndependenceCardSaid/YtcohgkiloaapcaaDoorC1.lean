/- Contracts: slices.Clip, AppendVarint. -/
import Derived.Test.YtcohgkiloaapcaaDoorProg
import Derived.Test.YtcohgkiloaapcaaDoorB0
import Derived.Test.YtcohgkiloaapcaaDoorN0
import Derived.Test.YtcohgkiloaapcaaDoorM0
namespace Go.Proofs.YtcohgkiloaapcaaDoor
open Go.RowKit

theorem info5 : (Tryd.prog.info? 5).map (fun i => (i.zero, i.size, i.bytes)) = some (some (.int .u8 0), 1, 1) := by kernel_rfl

theorem clip (A : Option Addr) (n c : Nat) (w : World) (hn : n ≤ c) (hc : c ≤ 9223372036854775807) :
    Calls Tryd.prog 61 #[.slice A n c] w fun e w' => e = .returned (.slice A n n) ∧ w = w' := by
  go_enter Tryd.func61, Tryd.ntmps61
  go_wp2
  go_ret
  exact ⟨rfl, rfl⟩

/-- The loop's relation. -/
def VarLoop (w : World) (whole : List UInt8) (v t : Value) (wr : World) : Prop :=
  ∃ (q : Nat) (ys : List UInt8), t = .int .u64 q ∧ q < 9223372036854775808 ∧ App w wr 5 1 v ys.length (bys ys) ∧ whole = ys ++ vEnc q ∧ Below w.heap.size w wr ∧ whole.length ≤ 100000100

set_option maxRecDepth 100000 in
set_option maxHeartbeats 400000 in
theorem appendVarint (A : Option Addr) (n c : Nat) (xs : List UInt8) (m : Nat) (w : World) (hb : Bs w A n c xs) (hm : m < 4611686018427387904) (hn : n ≤ 100000000) :
    Calls Tryd.prog 52 #[.slice A n c, .int .i64 m] w (RetB 5 (xs ++ vEnc (2 * m)) w) := by
  have hle := hb.le
  have hmax := hb.max
  have hx : bits .xor .u64 ((m : Int) * 2) ((m : Int) / 9223372036854775808) = 2 * (m : Int) := by
    have h0 : (m : Int) / 9223372036854775808 = ((0 : Nat) : Int) := by omega
    have := xor64 (2 * m) 0 (by omega) (by omega)
    rw [h0, show (m : Int) * 2 = ((2 * m : Nat) : Int) by omega, this]
    simp
  have hstart : VarLoop w (xs ++ vEnc (2 * m)) (.slice A n n) (.int .u64 (2 * (m : Int))) w := by
    refine ⟨2 * m, xs, by simp, by omega, .inr ⟨A, by rw [hb.len], by rw [bys_length]; omega, hb.rd⟩, rfl, Below.refl _ _, ?_⟩
    have := vEnc_len 9 (2 * m) (by omega)
    have := hb.len
    simp; omega
  clear hb
  go_enter Tryd.func52, Tryd.ntmps52
  go_wp2_with (go_at_call 61; refine (clip _ _ _ _ hle hmax).mono ?_; rintro e w' ⟨rfl, rfl⟩)
  clear hx
  go_loopw [0, 5] (fun v t wr => VarLoop w (xs ++ vEnc (2 * m)) v t wr) (fun _ t _ => (intOf t).toNat)
  case atStart => exact hstart
  case round =>
    obtain ⟨q, ys, rfl, hq0, happ, hw, hB, hL⟩ := hrel
    have hq := Lib.hid hq0
    have hL2 : ys.length ≤ 100000100 := by rw [hw] at hL; simp at hL; omega
    have hW := Lib.hid hw
    clear hq0 hm hstart hw hmax hle hn
    go_wp2_with (at_builtin; go_must (refine wpList_of_append rfl _ _ 22 rfl rfl rfl (run_App w _ 22 22 5 (.int .u8 0) 1 1 Tryd.underlying22 info5 rfl (by decide) (by decide) _ _ _ (happ.alloc _) (hB.alloc hB.size _) _ 1 1 [_] rfl (Rd.new _ _ _ _) (by simp [Value.oneCell']) (by decide) (by omega)) ?_))
    · intro v' w' hown hB'
      go_wp2
      go_roundw
      case rel =>
        have hq1 : ¬ q < 128 := by have : (128 : Int) ≤ q := by assumption
                                   omega
        refine ⟨q / 128, ys ++ [UInt8.ofNat (q % 128 + 128)], by simp, by have := hq.out; omega, .inl ?_, ?_, hB', by have := hW.out; omega⟩
        · rw [or8_128, bys_of_ofNat _ (by omega)] at hown
          simpa [bys] using hown
        · rw [hW.out, vEnc_big hq1]; simp
      case measure =>
        have : (128 : Int) ≤ q := by assumption
        simp [intOf]; omega
    · intro v' w' hown hB'
      go_wp2
      go_ret
      have hq1 : q < 128 := by have : (q : Int) < 128 := by assumption
                               omega
      rw [hW.out, vEnc_small hq1]
      rw [bys_of_ofNat _ (by omega)] at hown
      refine RetB.mk (n := ys.length + 1) hB' ?_
      simpa [bys] using hown
end Go.Proofs.YtcohgkiloaapcaaDoor

/- Contracts: the reference's AppendVarint, appendWord, Checksum. -/
import Derived.Test.YtcohgkiloaapcaaDoorG1
namespace Go.Proofs.YtcohgkiloaapcaaDoor
open Go.RowKit

def RVar (w : World) (whole : List UInt8) (v t : Value) (wr : World) : Prop :=
  ∃ (q : Nat) (ys : List UInt8), t = .int .u64 q ∧ q < 9223372036854775808 ∧ wr.ownsRow w.heap.size 5 1 v ys.length (bys ys) ∧ whole = ys ++ vEnc q ∧ Below w.heap.size w wr ∧ whole.length ≤ 100000100

set_option maxRecDepth 100000 in
set_option maxHeartbeats 400000 in
theorem refVarint (A : Option Addr) (n c : Nat) (xs : List UInt8) (m : Nat) (w : World) (hb : Bs w A n c xs) (hm : m < 4611686018427387904) (hn : n ≤ 100000000) (zs : List UInt8) (hz : zs = xs ++ vEnc (2 * m)) :
    Calls Tryd.prog 54 #[.slice A n c, .int .i64 m] w (RetB 5 zs w) := by
  have hZ := Lib.hid hz
  have hlen := Lib.hid hb.len
  have hzl := Lib.hid (show zs.length ≤ 100000100 by
    have h1 := vEnc_len 9 (2 * m) (by omega)
    have h2 := hb.len
    rw [hz]; simp; omega)
  clear hz
  have hm0 : ¬ (m : Int) < 0 := by omega
  have hown0 := own_empty w 5 1
  have hB0 := below_al w (.cells #[] 5)
  have hrd0 := hb.rd.below hB0
  clear hb
  go_enter Tryd.func54, Tryd.ntmps54
  go_wp2_with (at_builtin; go_must (refine wpList_of_append rfl _ _ 22 rfl rfl rfl (run_own w _ 22 22 5 (.int .u8 0) 1 1 Tryd.underlying22 info5 rfl (by decide) (by decide) _ _ _ hown0 hB0 _ _ _ (bys xs) (by rw [bys_length, hlen.out]; omega) hrd0 (bys_one _) (by omega)) ?_))
  intro v1 w1 hown1 hB1
  have hstart : RVar w zs v1 (.int .u64 ((m : Int) * 2)) w1 := by
    refine ⟨2 * m, xs, by congr 1; omega, by omega, ?_, hZ.out, hB1, hzl.out⟩
    rw [hlen.out]
    simpa using hown1
  clear hown1
  go_wp2_with fail
  go_loopw [5, 6] (fun t v wr => RVar w zs v t wr) (fun t _ _ => (intOf t).toNat)
  case atStart => exact hstart
  case round =>
    obtain ⟨q, ys, rfl, hq0, hown, hw, hB, hL⟩ := hrel
    have hq := Lib.hid hq0
    have hL2 : ys.length ≤ 100000100 := by rw [hw] at hL; simp at hL; omega
    have hW := Lib.hid hw
    clear hq0 hm hstart hw hn
    go_wp2_with (at_builtin; go_must (refine wpList_of_append rfl _ _ 22 rfl rfl rfl (run_own w _ 22 22 5 (.int .u8 0) 1 1 Tryd.underlying22 info5 rfl (by decide) (by decide) _ _ _ (own_below hown (below_al _ _)) (hB.alloc hB.size _) _ 1 1 [_] rfl (Rd.new _ _ _ _) (by simp [Value.oneCell']) (by omega)) ?_))
    · intro v' w' hown' hB'
      go_wp2
      go_roundw
      case rel =>
        have hq1 : ¬ q < 128 := by have : (128 : Int) ≤ q := by assumption
                                   omega
        refine ⟨q / 128, ys ++ [UInt8.ofNat (q % 128 + 128)], by simp, by have := hq.out; omega, ?_, ?_, hB', hL⟩
        · rw [or8_128, bys_of_ofNat _ (by omega)] at hown'
          simpa [bys] using hown'
        · rw [hW.out, vEnc_big hq1]; simp
      case measure =>
        have : (128 : Int) ≤ q := by assumption
        simp [intOf]; omega
    · intro v' w' hown' hB'
      go_wp2
      go_ret
      have hq1 : q < 128 := by have : (q : Int) < 128 := by assumption
                               omega
      rw [bys_of_ofNat _ (by omega)] at hown'
      refine RetB.mk (n := ys.length + 1) hB' ?_
      rw [hW.out, vEnc_small hq1]
      simpa [bys] using hown'

theorem le4_take (x i : Nat) (hi : i < 4) : (le4 x).take (i + 1) = (le4 x).take i ++ [UInt8.ofNat (x / 256 ^ i % 256)] := by
  have : i = 0 ∨ i = 1 ∨ i = 2 ∨ i = 3 := by omega
  rcases this with rfl | rfl | rfl | rfl <;> simp [le4]

set_option maxRecDepth 20000 in
theorem refWord (w0 : World) (A : Option Addr) (n c : Nat) (xs : List UInt8) (x : Nat) (hx : x < 4294967296) (w : World) (zs : List UInt8) (hz : zs = xs ++ le4 x) (hown : w.ownsRow w0.heap.size 5 1 (.slice A n c) n (bys xs)) (hB : Below w0.heap.size w0 w) (hn : n ≤ 1000000000) :
    Calls Tryd.prog 39 #[.slice A n c, .int .u32 x] w (RetB 5 zs w0) := by
  have hZ := Lib.hid hz
  have hl : xs.length = n := by have := hown.1; rw [bys_length] at this; omega
  have hlen := Lib.hid hl
  clear hz
  go_enter Tryd.func39, Tryd.ntmps39
  go_wp2_with fail
  go_loopw [0, 1, 5] (fun v t s wr => ∃ i : Nat, s = .int .i64 i ∧ i ≤ 4 ∧ t = .int .u32 (x / 256 ^ i : Nat) ∧ wr.ownsRow w0.heap.size 5 1 v (n + i) (bys (xs ++ (le4 x).take i)) ∧ Below w0.heap.size w0 wr) (fun _ _ s _ => 4 - (intOf s).toNat)
  case atStart => exact ⟨0, rfl, by omega, by simp, by simpa using hown, hB⟩
  case round =>
    obtain ⟨i, rfl, hi, rfl, hownr, hBr⟩ := hrel
    by_cases hlt : i < 4
    · have hti : (i : Int) < 4 := by omega
      have hqx : x / 256 ^ i < 4294967296 := Nat.lt_of_le_of_lt (Nat.div_le_self _ _) hx
      generalize hq : x / 256 ^ i = q at *
      go_wp2_with (at_builtin; go_must (refine wpList_of_append rfl _ _ 22 rfl rfl rfl (run_own w0 _ 22 22 5 (.int .u8 0) 1 1 Tryd.underlying22 info5 rfl (by decide) (by decide) _ _ _ (own_below hownr (below_al _ _)) (hBr.alloc hBr.size _) _ 1 1 [_] rfl (Rd.new _ _ _ _) (by simp [Value.oneCell']) (by omega)) ?_))
      intro v' w' hown' hB'
      go_wp2_with fail
      go_roundw
      case rel =>
        refine ⟨i + 1, rfl, by omega, ?_, ?_, hB'⟩
        · congr 1
          rw [Nat.pow_succ, ← Nat.div_div_eq_div_mul, hq]
          omega
        · rw [le4_take x i hlt, hq, ← List.append_assoc, bys_append, ← Nat.add_assoc]
          have e : bys [UInt8.ofNat (q % 256)] = [.int .u8 ((q : Int) % 256)] := by
            have := bys_of_ofNat (q % 256) (by omega)
            simp only [bys, List.map_cons, List.map_nil]
            rw [← this]
            simp
          rw [e]
          exact hown'
      case measure => simp [intOf]; omega
    · obtain rfl : i = 4 := by omega
      go_wp2_with fail
      go_ret
      refine RetB.mk (n := n + 4) hBr ?_
      rw [hZ.out]
      exact hownr

theorem crcStep_xor (a b : Nat) : crcStep (a ^^^ b) = crcStep a ^^^ crcStep b := by
  have h1 : (a ^^^ b) / 2 = a / 2 ^^^ b / 2 := by
    have := Nat.shiftRight_xor_distrib (a := a) (b := b) (i := 1)
    simpa [Nat.shiftRight_eq_div_pow] using this
  have h2 : (a ^^^ b) % 2 = (a % 2 + b % 2) % 2 := by
    have := Nat.xor_mod_two_pow (a := a) (b := b) (n := 1)
    simp only [Nat.pow_one] at this
    rw [this]
    have ha : a % 2 = 0 ∨ a % 2 = 1 := by omega
    have hb : b % 2 = 0 ∨ b % 2 = 1 := by omega
    rcases ha with h | h <;> rcases hb with h' | h' <;> simp [h, h']
  have h3 : 3988292384 * ((a ^^^ b) % 2) = (3988292384 * (a % 2)) ^^^ (3988292384 * (b % 2)) := by
    rw [h2]
    have ha : a % 2 = 0 ∨ a % 2 = 1 := by omega
    have hb : b % 2 = 0 ∨ b % 2 = 1 := by omega
    rcases ha with h | h <;> rcases hb with h' | h' <;> simp [h, h']
  unfold crcStep
  rw [h1, h3]
  ac_rfl
theorem crcN_xor (a b : Nat) : ∀ k, crcN k (a ^^^ b) = crcN k a ^^^ crcN k b
  | 0 => rfl
  | k + 1 => by rw [crcN, crcN_xor a b k, crcStep_xor]; rfl
theorem crcN_high (h : Nat) : ∀ k j, crcN k (2 ^ (k + j) * h) = 2 ^ j * h
  | 0, j => by simp [crcN]
  | k + 1, j => by
    rw [crcN, show k + 1 + j = k + (j + 1) by omega, crcN_high h k (j + 1), crcStep, Nat.pow_succ]
    have h1 : 2 ^ j * 2 * h / 2 = 2 ^ j * h := by rw [Nat.mul_right_comm, Nat.mul_div_cancel _ (by decide)]
    have h2 : 2 ^ j * 2 * h % 2 = 0 := by rw [Nat.mul_right_comm]; exact Nat.mul_mod_left _ _
    rw [h1, h2]
    simp
theorem split256 (c : Nat) : c = (256 * (c / 256)) ^^^ (c % 256) := by
  have h := or_add (c % 256) (c / 256) 8 (by omega)
  have hd : (c % 256) &&& ((c / 256) * 2 ^ 8) = 0 := by
    refine Nat.eq_of_testBit_eq fun i => ?_
    rw [Nat.testBit_and, Nat.zero_testBit, Nat.testBit_mul_two_pow]
    by_cases hi : 8 ≤ i
    · have : (c % 256).testBit i = false := Nat.testBit_lt_two_pow (Nat.lt_of_lt_of_le (Nat.mod_lt _ (by decide)) (show 256 ≤ 2 ^ i from Nat.pow_le_pow_right (n := 2) (by decide) hi))
      simp [this]
    · simp [hi]
  have hx : (256 * (c / 256)) ^^^ (c % 256) = (c % 256) ||| ((c / 256) * 2 ^ 8) := by
    refine Nat.eq_of_testBit_eq fun i => ?_
    have hdi := congrArg (fun n => n.testBit i) hd
    simp only [Nat.testBit_and, Nat.zero_testBit] at hdi
    rw [Nat.testBit_xor, Nat.testBit_or, show 256 * (c / 256) = (c / 256) * 2 ^ 8 by omega]
    cases h1 : (c % 256).testBit i <;> cases h2 : ((c / 256) * 2 ^ 8).testBit i <;> simp_all
  rw [hx, h]
  omega
/-- The reference's eight steps are the table's one. -/
theorem crcN8 (c x : Nat) (hx : x < 256) : crcN 8 (c ^^^ x) = crcUp c x := by
  have h1 : c ^^^ x = (256 * (c / 256)) ^^^ ((c % 256) ^^^ x) := by
    rw [← Nat.xor_assoc, ← split256]
  rw [h1, crcN_xor, show 256 * (c / 256) = 2 ^ (8 + 0) * (c / 256) from rfl, crcN_high]
  simp [crcUp, crcT]
end Go.Proofs.YtcohgkiloaapcaaDoor

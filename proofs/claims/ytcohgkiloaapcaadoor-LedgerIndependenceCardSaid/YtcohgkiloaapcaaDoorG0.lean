/- Contracts: the reference's SameBytes, Same. -/
import Derived.Test.YtcohgkiloaapcaaDoorF1
namespace Go.Proofs.YtcohgkiloaapcaaDoor
open Go.RowKit

theorem take_eq_succ {α : Type} {xs ys : List α} {i : Nat} (h1 : i < xs.length) (h2 : i < ys.length) (h : xs.take i = ys.take i) (he : xs[i] = ys[i]) : xs.take (i + 1) = ys.take (i + 1) := by
  rw [List.take_succ_eq_append_getElem h1, List.take_succ_eq_append_getElem h2, h, he]

theorem sameBytes (A B : Option Addr) (n m c d : Nat) (xs ys : List UInt8) (w : World) (ha : Bs w A n c xs) (hb : Bs w B m d ys) (hn : n ≤ 1000000000) (R : Bool) (hR : R = decide (xs = ys)) :
    Calls Tryd.prog 18 #[.slice A n c, .slice B m d] w fun e w' => e = .returned (.bool R) ∧ Below w.heap.size w w' := by
  have HR := Lib.hid hR
  clear hR
  have hla := Lib.hid ha.len
  have hlb := Lib.hid hb.len
  by_cases hnm : n = m
  · subst hnm
    go_enter Tryd.func18, Tryd.ntmps18
    go_wp2_with fail
    go_loopw [5] (fun s wr => ∃ i : Nat, s = .int .i64 i ∧ i ≤ n ∧ xs.take i = ys.take i ∧ Below w.heap.size w wr) (fun s _ => n - (intOf s).toNat)
    case atStart => exact ⟨0, rfl, by omega, by simp, Below.refl _ _⟩
    case round =>
      obtain ⟨i, rfl, hi, htk, hB⟩ := hrel
      have HT := Lib.hid htk
      clear htk
      by_cases hlt : i < n
      · have h1 : i < xs.length := by rw [hla.out]; exact hlt
        have h2 : i < ys.length := by rw [hlb.out]; exact hlt
        have har := ha.below hB
        have hbr := hb.below hB
        obtain ⟨b1, o1, rfl, hc1⟩ := har.at_ (by omega)
        obtain ⟨b2, o2, rfl, hc2⟩ := hbr.at_ (by omega)
        have e1 := hc1 i h1
        have e2 := hc2 i h2
        have hti : (i : Int) < n := by omega
        clear hc1 hc2 ha hb har hbr
        by_cases hxy : xs[i] = ys[i]
        · have hne : ((xs[i].toNat : Int) != (ys[i].toNat : Int)) = false := by rw [hxy]; simp
          have HX := Lib.hid hxy
          clear hxy
          go_wp2_with fail
          go_quiet (fail)
          go_wp2_with fail
          go_roundw
          case rel => exact ⟨i + 1, rfl, by omega, take_eq_succ h1 h2 HT.out HX.out, hB.trans ((below_drewN _ _).mono hB.size)⟩
          case measure => simp [intOf]; omega
        · have hne : ((xs[i].toNat : Int) != (ys[i].toNat : Int)) = true := by
            simp only [bne_iff_ne, ne_eq]
            intro h
            exact hxy (UInt8.toNat_inj.1 (by omega))
          have hF : decide (xs = ys) = false := by
            simp only [decide_eq_false_iff_not]
            rintro rfl
            exact hxy rfl
          have HF := Lib.hid hF
          clear hxy hF
          go_wp2_with fail
          go_quiet (fail)
          go_wp2_with fail
          go_ret
          exact ⟨ret_bool (by rw [HR.out, HF.out]), hB.trans ((below_drewN _ _).mono hB.size)⟩
      · obtain rfl : i = n := by omega
        have hT : decide (xs = ys) = true := by
          have := HT.out
          rw [List.take_of_length_le (by rw [hla.out]; omega), List.take_of_length_le (by rw [hlb.out]; omega)] at this
          simpa using this
        have HF := Lib.hid hT
        clear hT
        go_wp2_with fail
        go_ret
        exact ⟨ret_bool (by rw [HR.out, HF.out]), hB⟩
  · have hF : decide (xs = ys) = false := by
      simp only [decide_eq_false_iff_not]
      rintro rfl
      exact hnm (by rw [← hla.out, hlb.out])
    have HF := Lib.hid hF
    have hnm2 : ((n : Int) != (m : Int)) = true := by simp; omega
    clear ha hb hF
    go_enter Tryd.func18, Tryd.ntmps18
    go_wp2_with fail
    go_ret
    exact ⟨ret_bool (by rw [HR.out, HF.out]), Below.refl _ _⟩
end Go.Proofs.YtcohgkiloaapcaaDoor

/- Plain words on the laws' fixed examples; contracts of Scan and Repair at a known outcome. -/
import Derived.Test.YtcohgkiloaapcaaDoorJ1
namespace Go.Proofs.YtcohgkiloaapcaaDoor
open Go.RowKit

def ScanAt (es : List En) (off cd : Int) (k : Nat) (w : World) (e : Ending) (w' : World) : Prop :=
  ∃ A c ys, e = .returned (.tuple #[.slice A k c, .int .i64 off, .int .i64 cd]) ∧ Hid (ys.map (·.E) = es) ∧ Es w' A k c ys ∧ w'.ownsRow w.heap.size 25 3 (.slice A k c) k (rowsOf ys) ∧ Below w.heap.size w w'
theorem scan_at (A : Option Addr) (n c : Nat) (xs : List UInt8) (w : World) (hb : Bs w A n c xs) (hn : n ≤ 100000000) (hG : GOk w) (es : List En) (offn cdn k : Nat) (off cd : Int) (hs : scan xs = (es, offn, cdn)) (ho : (offn : Int) = off) (hc : (cdn : Int) = cd) (hk : es.length = k) :
    Calls Tryd.prog 16 #[.slice A n c] w (ScanAt es off cd k w) := by
  refine (scan_ok A n c xs w hb hn hG).mono ?_
  rintro e w' ⟨A1, n1, c1, ys, o1, d1, rfl, hS, hE, hown, hB⟩
  have h := hS.out
  rw [hs] at h
  injection h with h1 h2
  injection h2 with h2 h3
  subst h2 h3 ho hc
  have hn1 : n1 = k := by rw [← hE.len, ← hk, h1, List.length_map]
  subst hn1
  exact ⟨A1, c1, ys, rfl, Lib.hid h1.symm, hE, hown, hB⟩

theorem Bs.set {w : World} {b o n c : Nat} {xs : List UInt8} (h : Bs w (some ⟨b, o, none⟩) n c xs) (i : Nat) (hi : i < n) (x : UInt8) : Bs (w.setCell ⟨b, o + i, none⟩ (.int .u8 (x.toNat : Int))) (some ⟨b, o, none⟩) n c (xs.set i x) := by
  refine ⟨by rw [List.length_set]; exact h.len, h.le, h.max, fun hp => ⟨b, o, rfl, fun j u hj => ?_⟩⟩
  obtain ⟨b', o', e, hc⟩ := h.rd (by rw [bys_length, h.len]; omega)
  injection e with e
  injection e with e1 e2
  subst e1 e2
  have hjl : j < n := by
    have := (List.getElem?_eq_some_iff.1 hj).1
    rw [bys_length, List.length_set, h.len] at this
    exact this
  have hxl := h.len
  have hjx : j < xs.length := by omega
  rw [bys_get _ _ (by rw [List.length_set]; exact hjx)] at hj
  cases hj
  by_cases hij : j = i
  · subst hij
    rw [List.getElem_set_self]
    have hcell := hc j _ (bys_get xs j hjx)
    exact World.cell?_setCell_same _ _ _ hcell
  · rw [List.getElem_set_ne (fun e => hij e.symm)]
    exact (World.cell?_setCell_other _ _ _ _ (fun e => hij (by have := congrArg Addr.off e; simp only at this; omega))).trans (hc j _ (bys_get xs j hjx))

/-! The fixed examples. -/
def sE1 : En := ⟨1, [97], [98]⟩
def sE2 : En := ⟨4, [122], []⟩
theorem vE1 : VE sE1 := VE.mk (by decide) (by decide) (by decide) (by decide) (by decide)
theorem vE2 : VE sE2 := VE.mk (by decide) (by decide) (by decide) (by decide) (by decide)
theorem enc1 : encEn sE1 = [2, 2, 97, 2, 98] := by
  unfold encEn encE sE1
  simp only [show (1 : Int).toNat = 1 from rfl, List.length_cons, List.length_nil]
  rw [vEnc_small (by decide)]
  rfl
theorem enc2 : encEn sE2 = [8, 2, 122, 0] := by
  unfold encEn encE sE2
  simp only [show (4 : Int).toNat = 4 from rfl, List.length_cons, List.length_nil]
  rw [vEnc_small (by decide), vEnc_small (by decide), vEnc_small (by decide)]
  rfl
def sL1 : List UInt8 := recB (encEn sE1)
def sL2 : List UInt8 := recB (encEn sE1) ++ recB (encEn sE2)
theorem sL1_len : sL1.length = 13 := by rw [sL1, recB_length', enc1]; rfl
theorem sL2_len : sL2.length = 25 := by rw [sL2, List.length_append, recB_length', recB_length', enc1, enc2]; rfl
theorem sL1_log : sL1 = logB [sE1] := (logB_one _).symm
theorem sL2_log : sL2 = logB [sE1, sE2] := by rw [logB_cons, logB_one]; rfl
theorem sVEs : VEs [sE1, sE2] := by
  intro e he
  simp only [List.mem_cons, List.not_mem_nil, or_false] at he
  rcases he with rfl | rfl
  · exact vE1
  · exact vE2
theorem sVEs1 : VEs [sE1] := fun e he => sVEs e (by simp at he ⊢; exact .inl he)
theorem sScan1 : scan (sL1.take 12) = ([], 0, 271) := by
  have h := scan_cut [] sE1 [] (fun e he => by cases he) vE1 12 (by simp [logB]) (by rw [List.nil_append, ← sL1_log, sL1_len]; decide)
  rw [List.nil_append, ← sL1_log, List.append_nil] at h
  exact h
theorem sScan2 : scan sL2 = ([sE1, sE2], 25, 0) := by
  rw [← sL2_len, sL2_log]
  exact scan_log_only _ sVEs
theorem s20 : sL2[20]? = some 0 := by
  unfold sL2
  have h1 : (recB (encEn sE1)).length = 13 := sL1_len
  rw [List.getElem?_append_right (by omega), h1, enc2]
  rfl
theorem sScan3 : scan (sL2.set 20 1) = ([sE1], 13, 270) := by
  have hl : (logB [sE1]).length = 13 := by rw [← sL1_log, sL1_len]
  have hl2 : (logB ([sE1] ++ [sE2])).length = 25 := by show (logB [sE1, sE2]).length = 25; rw [← sL2_log, sL2_len]
  have h := scan_damaged [sE1] sE2 [] sVEs1 vE2 20 (by omega) (by omega) 1 (by
    show (1 : UInt8) ≠ (logB [sE1, sE2] ++ []).getD 20 0
    rw [← sL2_log, List.append_nil, List.getD_eq_getElem?_getD, s20]
    decide)
  have e : logB ([sE1] ++ [sE2]) ++ [] = sL2 := by rw [List.append_nil]; exact sL2_log.symm
  rw [e, hl] at h
  exact h
theorem sRepair : (sL2.set 20 1).take (scan (sL2.set 20 1)).2.1 = sL1 := by
  rw [sScan3]
  have h1 : (recB (encEn sE1)).length = 13 := sL1_len
  unfold sL2 sL1
  rw [List.set_append_right _ _ (by omega)]
  exact List.take_left' h1
theorem sTake9 : sL1.take 9 = [5, 0, 0, 0, 2, 2, 97, 2, 98] := by
  unfold sL1 recB
  rw [enc1]
  rfl
theorem sHash : chainH [sE1, sE2] ≠ chainH [sE1] := by
  unfold chainH chainUp
  simp only [List.foldl_cons, List.foldl_nil]
  rw [enc1, enc2]
  decide +kernel
end Go.Proofs.YtcohgkiloaapcaaDoor

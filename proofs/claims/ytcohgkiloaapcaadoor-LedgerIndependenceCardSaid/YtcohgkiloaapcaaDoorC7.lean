/- Contracts: the decoder's number, bytes, entry. -/
import Derived.Test.YtcohgkiloaapcaaDoorC6
import Derived.StillTailTactics
namespace Go.Proofs.YtcohgkiloaapcaaDoor
open Go.RowKit

/-- Bytes that lie in a block of bytes. -/
structure Bo (w : World) (A : Option Addr) (n c : Nat) (xs : List UInt8) : Prop where
  bs : Bs w A n c xs
  ty : ∀ b o, A = some ⟨b, o, none⟩ → ∃ cs, w.heap[b]? = some (.cells cs 5 (0, 0))
theorem Bo.below {w w' : World} {A : Option Addr} {n c : Nat} {xs : List UInt8} (h : Bo w A n c xs) (hb : Below w.heap.size w w') : Bo w' A n c xs :=
  ⟨h.bs.below hb, fun b o e => by obtain ⟨cs, hc⟩ := h.ty b o e; exact ⟨cs, (hb.block b (Array.getElem?_eq_some_iff.1 hc).1).trans hc⟩⟩
theorem Bo.own {w : World} {base : Nat} {n : Nat} {A : Option Addr} {c : Nat} {xs : List UInt8} (h : w.ownsRow base 5 1 (.slice A n c) n (bys xs)) : Bo w A n c xs := by
  refine ⟨Bs.own h, fun b o e => ?_⟩
  rcases h.2 with ⟨h1, _⟩ | ⟨g, cap, cur, h1, _, hg, _⟩
  · injection h1 with h1 _ _
    rw [e] at h1
    cases h1
  · injection h1 with h1 _ _
    rw [e] at h1
    cases h1
    exact ⟨cur, hg⟩
theorem Bo.zero (w : World) : Bo w none 0 0 [] := ⟨Bs.nil _ _ _ (Nat.zero_le _), fun b o e => by cases e⟩
theorem bo_grown {w w' : World} {B : Nat} {A : Option Addr} {n c : Nat} {xs : List UInt8} (h : Bo w A n c xs) (hg : w.grownBy w' (some B)) {cs : Array Value} {t : TypeId} {fr : Nat × Nat} (hd : w.heap[B]? = some (.cells cs t fr)) (ht : t ≠ 5) : Bo w' A n c xs := by
  have hne : ∀ b o, A = some ⟨b, o, none⟩ → b ≠ B := fun b o e hb => by
    obtain ⟨cs', hc⟩ := h.ty b o e
    rw [hb, hd] at hc
    cases hc
    exact ht rfl
  refine ⟨⟨h.bs.len, h.bs.le, h.bs.max, fun hp => ?_⟩, fun b o e => ?_⟩
  · obtain ⟨b, o, e, hc⟩ := h.bs.rd hp
    exact ⟨b, o, e, fun j u hj => hg.cell (hc j u hj) (fun hbd => hne b o e (by simpa using hbd))⟩
  · obtain ⟨cs', hc⟩ := h.ty b o e
    exact ⟨cs', (hg.block b (Array.getElem?_eq_some_iff.1 hc).1 (fun hbd => hne b o e (by simpa using hbd))).trans hc⟩

/-- What a decoding function does: it fails and throws, or it hands back what F says and moves on. -/
def DPost {β : Type} (D : Nat) (a : Option Addr) (n c : Nat) (xs : List UInt8) (w : World) (F : β → Ending → World → Prop) (r : Except Nat (β × List UInt8)) (e : Ending) (w' : World) : Prop :=
  match r with
  | .error cd => e = Fail cd ∧ OnlyD D w w'
  | .ok (v, l) => F v e w' ∧ ∃ q, q ≤ n ∧ xs.drop q = l ∧ w'.heap[D]? = some (DecB a n c q) ∧ OnlyD D w w'

theorem varint_no {D : Nat} {a : Option Addr} {n c p0 : Nat} {xs : List UInt8} {w : World} (hd : w.heap[D]? = some (DecB a n c p0)) (hb : Bs w a n c xs) (hp : p0 ≤ n) (hn : n ≤ 1000000000) {cd : Nat} (hv : vDec 0 0 (xs.drop p0) = .error cd) :
    Calls Tryd.prog 71 #[.pointer (some ⟨D, 0, none⟩)] w fun e w' => e = .panicked [{ v := .iface 121 (.agg #[.int .i64 cd]), recovered := false }] ∧ OnlyD D w w' :=
  (varint_walk D a n c p0 xs w hd hb hp hn).mono fun e w' h => by rw [hv] at h; exact h
theorem varint_yes {D : Nat} {a : Option Addr} {n c p0 : Nat} {xs : List UInt8} {w : World} (hd : w.heap[D]? = some (DecB a n c p0)) (hb : Bs w a n c xs) (hp : p0 ≤ n) (hn : n ≤ 1000000000) {v : Nat} {l : List UInt8} (hv : vDec 0 0 (xs.drop p0) = .ok (v, l)) :
    Calls Tryd.prog 71 #[.pointer (some ⟨D, 0, none⟩)] w fun e w' => e = .returned (.int .i64 (zz v)) ∧ ∃ q, q ≤ n ∧ xs.drop q = l ∧ w'.heap[D]? = some (DecB a n c q) ∧ OnlyD D w w' :=
  (varint_walk D a n c p0 xs w hd hb hp hn).mono fun e w' h => by rw [hv] at h; exact h

theorem number_no {D : Nat} {a : Option Addr} {n c p0 : Nat} {xs : List UInt8} {w : World} (hd : w.heap[D]? = some (DecB a n c p0)) (hb : Bs w a n c xs) (hp : p0 ≤ n) (hn : n ≤ 1000000000) (lo hi : Int) {cd : Nat} (hv : nDec lo hi (xs.drop p0) = .error cd) :
    Calls Tryd.prog 68 #[.pointer (some ⟨D, 0, none⟩), .int .i64 lo, .int .i64 hi] w fun e w' => e = .panicked [{ v := .iface 121 (.agg #[.int .i64 cd]), recovered := false }] ∧ OnlyD D w w' := by
  cases h1 : vDec 0 0 (xs.drop p0) with
  | error c1 =>
    have e1 : c1 = cd := by unfold nDec at hv; rw [h1] at hv; simpa using hv
    subst e1
    have hc := varint_no hd hb hp hn h1
    clear hd hv h1 hb
    go_enter Tryd.func68, Tryd.ntmps68
    go_wp2_with (go_at_call 71; go_must (refine hc.mono ?_); rintro e w' ⟨rfl, hg⟩)
    exact ⟨rfl, rfl, hg⟩
  | ok x =>
    obtain ⟨u, l⟩ := x
    have e1 : (zz u < lo ∨ hi < zz u) ∧ cd = 272 := by
      unfold nDec at hv; rw [h1] at hv; dsimp only at hv
      split at hv
      · rename_i h; exact ⟨h, by simpa using hv.symm⟩
      · cases hv
    obtain ⟨hout, rfl⟩ := e1
    have hc := varint_yes hd hb hp hn h1
    generalize zz u = z at *
    clear hd hv h1 hb
    by_cases h2 : z < lo
    · clear hout
      go_enter Tryd.func68, Tryd.ntmps68
      go_wp2_with (first | (go_at_call 71; go_must (refine hc.mono ?_); rintro e w' ⟨rfl, q, -, -, -, hg⟩) | (go_at_call 72; go_must (refine (fail_ok _ _ _).mono ?_); rintro e w' ⟨rfl, rfl⟩))
      exact ⟨rfl, rfl, hg⟩
    · have h3 : hi < z := by omega
      clear hout
      go_enter Tryd.func68, Tryd.ntmps68
      go_wp2_with (first | (go_at_call 71; go_must (refine hc.mono ?_); rintro e w' ⟨rfl, q, -, -, -, hg⟩) | (go_at_call 72; go_must (refine (fail_ok _ _ _).mono ?_); rintro e w' ⟨rfl, rfl⟩))
      exact ⟨rfl, rfl, hg⟩

theorem number_yes {D : Nat} {a : Option Addr} {n c p0 : Nat} {xs : List UInt8} {w : World} (hd : w.heap[D]? = some (DecB a n c p0)) (hb : Bs w a n c xs) (hp : p0 ≤ n) (hn : n ≤ 1000000000) (lo hi : Int) {v : Int} {l : List UInt8} (hv : nDec lo hi (xs.drop p0) = .ok (v, l)) :
    Calls Tryd.prog 68 #[.pointer (some ⟨D, 0, none⟩), .int .i64 lo, .int .i64 hi] w fun e w' => e = .returned (.int .i64 v) ∧ ∃ q, q ≤ n ∧ xs.drop q = l ∧ w'.heap[D]? = some (DecB a n c q) ∧ OnlyD D w w' := by
  cases h1 : vDec 0 0 (xs.drop p0) with
  | error c1 => unfold nDec at hv; rw [h1] at hv; cases hv
  | ok x =>
    obtain ⟨u, l'⟩ := x
    have e1 : ¬ (zz u < lo ∨ hi < zz u) ∧ zz u = v ∧ l' = l := by
      unfold nDec at hv; rw [h1] at hv; dsimp only at hv
      split at hv
      · cases hv
      · rename_i h; cases hv; exact ⟨h, rfl, rfl⟩
    obtain ⟨hin, rfl, rfl⟩ := e1
    have hc := varint_yes hd hb hp hn h1
    generalize zz u = z at *
    have h2 : ¬ z < lo := by omega
    have h3 : ¬ hi < z := by omega
    clear hd hv h1 hb hin
    go_enter Tryd.func68, Tryd.ntmps68
    go_wp2_with (go_at_call 71; go_must (refine hc.mono ?_); rintro e w' ⟨rfl, q, hq1, hq2, hq3, hg⟩)
    go_ret
    exact ⟨rfl, q, hq1, hq2, hq3, hg⟩

set_option maxRecDepth 20000 in
theorem bytes_yes {D : Nat} {a : Option Addr} {n c p0 : Nat} {xs : List UInt8} {w : World} (hd : w.heap[D]? = some (DecB a n c p0)) (hb : Bs w a n c xs) (hp : p0 ≤ n) (hn : n ≤ 1000000000) (lo hi : Int) (h0 : 0 ≤ lo) {v l : List UInt8} (hv : bDec lo hi (xs.drop p0) = .ok (v, l)) :
    Calls Tryd.prog 69 #[.pointer (some ⟨D, 0, none⟩), .int .i64 lo, .int .i64 hi] w fun e w' => (∃ A m cc, e = .returned (.slice A m cc) ∧ Bo w' A m cc v) ∧ ∃ q, q ≤ n ∧ xs.drop q = l ∧ w'.heap[D]? = some (DecB a n c q) ∧ OnlyD D w w' := by
  cases h1 : nDec lo hi (xs.drop p0) with
  | error c1 => unfold bDec at hv; rw [h1] at hv; cases hv
  | ok x =>
    obtain ⟨z, r⟩ := x
    have e1 : ¬ ((r.length : Int) < z) ∧ r.take z.toNat = v ∧ r.drop z.toNat = l := by
      unfold bDec at hv; rw [h1] at hv; dsimp only at hv
      split at hv
      · cases hv
      · rename_i h; cases hv; exact ⟨h, rfl, rfl⟩
    obtain ⟨hin, rfl, rfl⟩ := e1
    have hz : 0 ≤ z := by have := (nDec_le h1).2.1; omega
    obtain ⟨m, rfl⟩ := Int.eq_ofNat_of_zero_le hz
    have hc := number_yes hd hb hp hn lo hi h1
    have hlen := Lib.hid hb.len
    have HD := Lib.hid hd
    have HB := Lib.hid hb
    clear hd hv h1 hb
    go_enter Tryd.func69, Tryd.ntmps69
    go_wp2_with (go_at_call 68; go_must (refine hc.mono ?_); rintro e w1 ⟨rfl, q, hq1, hq2, hq3, hg⟩)
    obtain ⟨hc0, hc1, hf1⟩ := cellD hq3
    have hrl : r.length + q = n := by rw [← hq2, List.length_drop, hlen.out]; omega
    have hqm : q + m ≤ n := by simp at hin; omega
    have hin2 : ¬ ((n : Int) - (q : Int) < (m : Int)) := by omega
    have HQ := Lib.hid hq2
    have HQ3 := Lib.hid hq3
    clear hin hrl hq2 hq3
    go_quiet (fail)
    go_wp2_with fail
    have hD2 : ((w1.drewN nq).setCell ⟨D, 1, none⟩ (.int .i64 ((q : Int) + (m : Int)))).heap[D]? = some (DecB a n c (q + m)) := setD (w := w1.drewN nq) HQ3.out (q + m)
    have hg2 : OnlyD D w ((w1.drewN nq).setCell ⟨D, 1, none⟩ (.int .i64 ((q : Int) + (m : Int)))) := grown_trans (grown_trans hg (grown_of_below (below_drewN _ _) _)) (onlyD_set _ _ _)
    clear hc0 hc1 hf1 HQ3 hg
    generalize (w1.drewN nq).setCell ⟨D, 1, none⟩ (.int .i64 ((q : Int) + (m : Int))) = w2 at *
    obtain ⟨hc0, hc1, hf1⟩ := cellD hD2
    have hcn := HB.out.le
    obtain ⟨A', hcut, hbcut⟩ := cut_lh (P := Tryd.prog) 22 5 Tryd.underlying22 info5 a n c q (q + m) (q : Int) ((q : Int) + (m : Int)) (by omega) (by omega) (by omega) hqm hcn
    have hb2 := hbcut w2 xs (bs_only HB.out hg2 HD.out)
    clear hbcut
    have hw : IntKind.i64.wrap (q : Int) = (q : Int) := by
      have := HB.out.max
      rw [IntKind.wrap_i64]; omega
    have hmq : q + m - q = m := by omega
    rw [hmq] at hb2 hcut
    have hb3 := Lib.hid (hb2.below (below_drewN w2 1))
    clear hb2
    go_still_tail 15, (by kernel_rfl)
    go_wp2_with (go_at_call 34; go_must (refine (clone _ _ _ _ _ hb3.out (by omega)).mono ?_); rintro e w3 ⟨A3, n3, c3, rfl, hL3, hB3, hown3⟩)
    go_ret
    have hDlt : D < w2.heap.size := (Array.getElem?_eq_some_iff.1 hD2).1
    refine ⟨⟨A3, n3, c3, rfl, ?_⟩, q + m, hqm, ?_, (hB3.block D hDlt).trans hD2, grown_trans hg2 (grown_trans (grown_of_below (below_drewN w2 1) _) (grown_of_below hB3 _))⟩
    · have h4 := Bo.own hown3
      rw [List.drop_take, hmq, HQ.out] at h4
      exact h4
    · rw [← HQ.out, List.drop_drop]; rfl

theorem bytes_no {D : Nat} {a : Option Addr} {n c p0 : Nat} {xs : List UInt8} {w : World} (hd : w.heap[D]? = some (DecB a n c p0)) (hb : Bs w a n c xs) (hp : p0 ≤ n) (hn : n ≤ 1000000000) (lo hi : Int) {cd : Nat} (hv : bDec lo hi (xs.drop p0) = .error cd) :
    Calls Tryd.prog 69 #[.pointer (some ⟨D, 0, none⟩), .int .i64 lo, .int .i64 hi] w fun e w' => e = .panicked [{ v := .iface 121 (.agg #[.int .i64 cd]), recovered := false }] ∧ OnlyD D w w' := by
  cases h1 : nDec lo hi (xs.drop p0) with
  | error c1 =>
    have e1 : c1 = cd := by unfold bDec at hv; rw [h1] at hv; simpa using hv
    subst e1
    have hc := number_no hd hb hp hn lo hi h1
    clear hd hv h1 hb
    go_enter Tryd.func69, Tryd.ntmps69
    go_wp2_with (go_at_call 68; go_must (refine hc.mono ?_); rintro e w' ⟨rfl, hg⟩)
    exact ⟨rfl, rfl, hg⟩
  | ok x =>
    obtain ⟨z, r⟩ := x
    have e1 : ((r.length : Int) < z) ∧ cd = 271 := by
      unfold bDec at hv; rw [h1] at hv; dsimp only at hv
      split at hv
      · rename_i h; exact ⟨h, by simpa using hv.symm⟩
      · cases hv
    obtain ⟨hin, rfl⟩ := e1
    have hc := number_yes hd hb hp hn lo hi h1
    have hlen := Lib.hid hb.len
    clear hd hv h1
    go_enter Tryd.func69, Tryd.ntmps69
    go_wp2_with (go_at_call 68; go_must (refine hc.mono ?_); rintro e w1 ⟨rfl, q, hq1, hq2, hq3, hg⟩)
    obtain ⟨hc0, hc1, hf1⟩ := cellD hq3
    have hin2 : (n : Int) - (q : Int) < z := by
      have : r.length + q = n := by rw [← hq2, List.length_drop, hlen.out]; omega
      omega
    clear hin hq2 hq3
    go_quiet (fail)
    go_wp2_with (go_at_call 72; go_must (refine (fail_ok _ _ _).mono ?_); rintro e w' ⟨rfl, rfl⟩)
    exact ⟨rfl, rfl, grown_trans hg (grown_of_below (below_drewN _ _) _)⟩
end Go.Proofs.YtcohgkiloaapcaaDoor

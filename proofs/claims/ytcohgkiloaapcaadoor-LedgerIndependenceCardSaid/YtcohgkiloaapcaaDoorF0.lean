/- Contracts: Scan in plain words; Repair. -/
import Derived.Test.YtcohgkiloaapcaaDoorE3
namespace Go.Proofs.YtcohgkiloaapcaaDoor
open Go.RowKit

/-- Scanning: the entries, the offset behind them, the error's code (0: none). -/
def sDec : Nat → Nat → List UInt8 → List En × Nat × Nat
  | 0, off, _ => ([], off, 0)
  | k + 1, off, l => if l = [] then ([], off, 0) else match fDec l with
    | .error cd => ([], off, cd)
    | .ok (E, m) => (E :: (sDec k (off + m) (l.drop m)).1, (sDec k (off + m) (l.drop m)).2)

def lastOffF (off : Nat) (ys : List Rec) : Nat := (ys.getLast?.map Rec.off).getD off
theorem lastOffF_cons (off : Nat) (y : Rec) (ys : List Rec) : lastOffF off (y :: ys) = lastOffF y.off ys := by
  cases ys with
  | nil => simp [lastOffF]
  | cons z zs =>
    obtain ⟨u, hu⟩ := Option.isSome_iff_exists.1 (show (z :: zs).getLast?.isSome = true by simp)
    simp only [lastOffF, List.getLast?_cons_cons, hu]
    rfl

theorem sDec_recs : ∀ (k off : Nat) (l : List UInt8) (ys : List Rec) (cd : Nat), l.length < k → (∀ y, y ∈ ys → y.err = none) →
    ((cd = 0 ∧ ys.map Rec.key = recs k off l) ∨ ∃ p : Nat, ys.map Rec.key ++ [(En.zero, p, some cd)] = recs k off l) → sDec k off l = (ys.map (·.E), lastOffF off ys, cd)
  | 0, off, l, ys, cd, hk, _, h => by omega
  | k + 1, off, l, ys, cd, hk, herr, h => by
    rw [recs] at h
    rw [sDec]
    by_cases hl : l = []
    · rw [if_pos hl] at h ⊢
      rcases h with ⟨h1, h2⟩ | ⟨p, h2⟩
      · have : ys = [] := by simpa using h2
        subst this h1
        rfl
      · simp at h2
    · rw [if_neg hl] at h ⊢
      cases hf : fDec l with
      | error c =>
        rw [hf] at h
        dsimp only at h ⊢
        cases ys with
        | nil =>
          rcases h with ⟨h1, h2⟩ | ⟨p, h2⟩
          · simp at h2
          · simp at h2
            rw [h2.2]; rfl
        | cons y ys =>
          have he := herr y List.mem_cons_self
          rcases h with ⟨h1, h2⟩ | ⟨p, h2⟩
          · simp [Rec.key, he] at h2
          · simp [Rec.key, he] at h2
      | ok x =>
        obtain ⟨E, m⟩ := x
        rw [hf] at h
        dsimp only at h ⊢
        have hm := fDec_ok hf
        cases ys with
        | nil =>
          rcases h with ⟨h1, h2⟩ | ⟨p, h2⟩
          · simp at h2
          · simp at h2
        | cons y ys =>
          have hk2 : (l.drop m).length < k := by rw [List.length_drop]; omega
          have hy : y.E = E ∧ y.off = off + m := by
            rcases h with ⟨h1, h2⟩ | ⟨p, h2⟩
            · have := (List.cons.inj h2).1; simp [Rec.key] at this; exact ⟨this.1, this.2.1⟩
            · have := (List.cons.inj h2).1; simp [Rec.key] at this; exact ⟨this.1, this.2.1⟩
          have ih := sDec_recs k (off + m) (l.drop m) ys cd hk2 (fun z hz => herr z (List.mem_cons_of_mem _ hz)) (by
            rcases h with ⟨h1, h2⟩ | ⟨p, h2⟩
            · exact .inl ⟨h1, (List.cons.inj h2).2⟩
            · exact .inr ⟨p, (List.cons.inj h2).2⟩)
          rw [ih, lastOffF_cons, hy.2, List.map_cons, hy.1]

theorem sDec_le : ∀ (k off : Nat) (l : List UInt8), (sDec k off l).2.1 ≤ off + l.length
  | 0, off, l => by simp [sDec]
  | k + 1, off, l => by
    rw [sDec]
    split
    · simp
    · cases hf : fDec l with
      | error c => simp
      | ok x =>
        obtain ⟨E, m⟩ := x
        have hm := fDec_ok hf
        have := sDec_le k (off + m) (l.drop m)
        rw [List.length_drop] at this
        dsimp only
        omega

/-- What Scan says of a log. -/
def scan (xs : List UInt8) : List En × Nat × Nat := sDec (xs.length + 1) 0 xs

/-- A slice of entries that may be read. -/
structure Es (w : World) (A : Option Addr) (n c : Nat) (ys : List Rec) : Prop where
  len : ys.length = n
  le : n ≤ c
  max : c ≤ 9223372036854775807
  rd : Rd w A (rowsOf ys)
  bd : ∀ x, x ∈ ys → Bs w x.A x.m x.c x.E.body

theorem Es.below {w w' : World} {A : Option Addr} {n c : Nat} {ys : List Rec} (h : Es w A n c ys) (hb : Below w.heap.size w w') : Es w' A n c ys :=
  ⟨h.len, h.le, h.max, h.rd.below hb, fun x hx => (h.bd x hx).below hb⟩
theorem Es.own {w : World} {B : Nat} {A : Option Addr} {c : Nat} {ys : List Rec} (h : RowE B ys (.slice A ys.length c) w) (hg : GoodE ys w) : Es w A ys.length c ys := by
  obtain ⟨A', c', hv, h1, h2⟩ := own_shape h
  injection hv with hA _ hc
  subst hA; subst hc
  exact ⟨rfl, h1, by simpa [maxLen] using h2, Rd.own h, fun x hx => (hg x hx).2.bs⟩

/-- What Scan does. -/
def ScanQ (xs : List UInt8) (w : World) (e : Ending) (w' : World) : Prop :=
  ∃ A n c ys off cd, e = .returned (.tuple #[.slice A n c, .int .i64 (off : Nat), .int .i64 (cd : Nat)]) ∧ Hid (scan xs = (ys.map (·.E), off, cd)) ∧ Es w' A n c ys ∧ w'.ownsRow w.heap.size 25 3 (.slice A n c) n (rowsOf ys) ∧ Below w.heap.size w w'

theorem scan_ok (A : Option Addr) (n c : Nat) (xs : List UInt8) (w : World) (hb : Bs w A n c xs) (hn : n ≤ 100000000) (hG : GOk w) : Calls Tryd.prog 16 #[.slice A n c] w (ScanQ xs w) := by
  refine (scan_walk A n c xs w hb hn hG).mono ?_
  rintro e w' ⟨v, ys, off, cd, rfl, hrow, hB, hgood, rfl, hc⟩
  obtain ⟨Av, cv, rfl, -⟩ := own_shape hrow
  have hl := hb.len
  refine ⟨Av, ys.length, cv, ys, _, cd, rfl, Lib.hid ?_, Es.own hrow hgood, hrow, hB⟩
  have := sDec_recs (n + 1) 0 xs ys cd (by omega) (fun y hy => (hgood y hy).1) hc
  rw [scan, hl, this]
  rfl

theorem repair_ok (A : Option Addr) (n c : Nat) (xs : List UInt8) (w : World) (hb : Bs w A n c xs) (hn : n ≤ 100000000) (hG : GOk w) (zs : List UInt8) (hz : zs = xs.take (scan xs).2.1) : Calls Tryd.prog 20 #[.slice A n c] w (RetB 5 zs w) := by
  have hZ := Lib.hid hz
  have hl := hb.len
  have hc := scan_ok A n c xs w hb hn hG
  have hoff : (scan xs).2.1 ≤ n := by have := sDec_le (xs.length + 1) 0 xs; unfold scan; omega
  have hle := hb.le
  have HB := Lib.hid hb
  clear hz hb
  go_enter Tryd.func20, Tryd.ntmps20
  have hcut : ∀ off : Nat, off ≤ n → ∃ A', (∀ W : World, (Instr.slice 22 (.slice A n c) none (some (.int .i64 (off : Int))) none).run Tryd.prog W = .ok (.slice A' off c) W) ∧ ∀ w xs, Bs w A n c xs → Bs w A' off c (xs.take off) := fun off h => cut_h 22 5 Tryd.underlying22 info5 A n c off off rfl h hle
  go_wp2_with (first | (go_at_call 16; go_must (refine hc.mono ?_); rintro e w1 ⟨A1, n1, c1, ys, off, cd, rfl, hS, hE, hown, hB⟩; obtain ⟨A', hrun, htr⟩ := hcut off (by have := hS.out; rw [this] at hoff; exact hoff)) | (go_at_call 34; go_must (refine (clone _ _ _ _ _ (htr _ _ (HB.out.below hB)) (by have := hS.out; rw [this] at hoff; exact Nat.le_trans hoff (by omega))).mono ?_); rintro e w2 ⟨A2, n2, c2, rfl, hL2, hB2, hown2⟩))
  go_ret
  have := hS.out
  have hz2 : zs = xs.take off := by rw [hZ.out, this]
  refine ⟨A2, n2, c2, rfl, by rw [hz2]; exact hL2, below_then hB hB2, by rw [hz2]; exact own_lower hown2 hB.size⟩
end Go.Proofs.YtcohgkiloaapcaaDoor

/- Contracts: ledger.records and its iterator. -/
import Derived.RangeFuncNested
import Derived.RangeFuncBound
import Derived.RangeFuncCalls
import Derived.RangeFuncLeaves
import Derived.Shelf.Abstract
import Derived.Shelf.RegionOpen
import Derived.WalkKit
import Derived.OwnWalkIn
import Derived.TacticsInMore
import Derived.LoopNIn
import Derived.LoopIn
import Derived.Test.YtcohgkiloaapcaaDoorQ0
import Derived.Test.YtcohgkiloaapcaaDoorE1
namespace Go.Proofs.YtcohgkiloaapcaaDoor
open Go.RowKit Go.Shelf

attribute [local go_sem] Oper.semAt_some

/-- What the iterator hands on: an entry with the place of its body, the offset behind it, the error's code. -/
structure Rec where
  E : En
  A : Option Addr
  m : Nat
  c : Nat
  off : Nat
  err : Option Nat
def errV : Option Nat → Value
  | none => .nilIface
  | some cd => .iface 66 (.agg #[.int .i64 cd])
def recV (x : Rec) : Value := .agg #[.int .i64 x.E.kind, .string (strOf x.E.key), .slice x.A x.m x.c, .int .i64 x.off, errV x.err]
def Rec.key (x : Rec) : En × Nat × Option Nat := (x.E, x.off, x.err)
def En.zero : En := ⟨0, [], []⟩

/-- What the iterator hands on from an offset on. -/
def recs : Nat → Nat → List UInt8 → List (En × Nat × Option Nat)
  | 0, _, _ => []
  | k + 1, off, l => if l = [] then [] else match fDec l with
    | .error cd => [(En.zero, off, some cd)]
    | .ok (E, m) => (E, off + m, none) :: recs k (off + m) (l.drop m)

theorem fDec_ok {l : List UInt8} {E : En} {m : Nat} (h : fDec l = .ok (E, m)) : 8 ≤ m ∧ m ≤ l.length := by
  unfold fDec at h
  split at h
  · cases h
  · split at h
    · cases h
    · split at h
      · cases h
      · cases he : eDec ((l.take (4 + w4 l)).drop 4) with
        | error c => rw [he] at h; cases h
        | ok x =>
          rw [he] at h
          dsimp only at h
          split at h
          · cases h; omega
          · cases h

theorem store3In {F : Fence} {n : Nat} {ops : Array Oper} {rest : List Oper} {dst : Option Tmp} {t : TypeId} {pos : String} {after : Array Edge} {a : Act} {w : World} {Q : Exit → Act → World → Prop} {x y : Operand} (b : Nat) (k : Int) (s : ByteArray) (A : Option Addr) (m c : Nat)
    (hx : a.eval x = .pointer (some ⟨b, 0, none⟩)) (hy : a.eval y = .agg #[.int .i64 k, .string s, .slice A m c]) (ht : w.there b 0 3)
    (h : wpListIn F n Tryd.prog ops Q rest (a.put dst undef) (w.setCells b 0 [.int .i64 k, .string s, .slice A m c])) :
    wpListIn F n Tryd.prog ops Q ({ dst := dst, op := .store 25 x y, type := t, pos := pos, after := after, guard := none } :: rest) a w := by
  refine wpListIn_plain rfl fun K hK => ?_
  have hr := run_storeAt_mid (P := Tryd.prog) w b 0 25 #[.int .i64 k, .string s, .slice A m c] ht info25 (one3 _ _ _)
  unfold Oper.wpIn
  refine ⟨by simp [Oper.about], ?_⟩
  rw [Oper.semAt_plain F _ _ (by intro c hc; cases hc)]
  simp only [execOp, hx, hy, Sem.run_bind, Sem.run_pure, hr, Result.andThen_ok]
  exact hK _ _ h
theorem load3In {F : Fence} {n : Nat} {ops : Array Oper} {rest : List Oper} {dst : Option Tmp} {t : TypeId} {pos : String} {after : Array Edge} {a : Act} {w : World} {Q : Exit → Act → World → Prop} {x : Operand} (b : Nat) (k : Int) (s : ByteArray) (A : Option Addr) (m c : Nat)
    (hx : a.eval x = .pointer (some ⟨b, 0, none⟩)) (hr : w.rangeAt b 0 [.int .i64 k, .string s, .slice A m c])
    (h : wpListIn F n Tryd.prog ops Q rest (a.put dst (.agg #[.int .i64 k, .string s, .slice A m c])) w) :
    wpListIn F n Tryd.prog ops Q ({ dst := dst, op := .load 25 x, type := t, pos := pos, after := after, guard := none } :: rest) a w := by
  refine wpListIn_plain rfl fun K hK => ?_
  have hr := run_loadAt_mid (P := Tryd.prog) w b 0 25 [.int .i64 k, .string s, .slice A m c] _ hr Tryd.underlying25 rfl info25
  unfold Oper.wpIn
  refine ⟨by simp [Oper.about], ?_⟩
  rw [Oper.semAt_plain F _ _ (by intro c hc; cases hc)]
  simp only [execOp, hx, Sem.run_bind, Sem.run_pure, hr, Result.andThen_ok]
  exact hK _ _ h

/-- What a round may not turn: all that lay below n0, and the iterator's own box. -/
def KpS (n0 Bn : Nat) (W W' : World) : Prop := Below n0 W W' ∧ (∀ o, W.heap[Bn]? = some o → W'.heap[Bn]? = some o) ∧ W.heap.size ≤ W'.heap.size

theorem KpS.of_below {n0 Bn : Nat} {W W' : World} (hn : n0 ≤ W.heap.size) (hB : Bn < W.heap.size) (h : Below W.heap.size W W') : KpS n0 Bn W W' :=
  ⟨h.mono hn, fun o ho => (h.block Bn hB).trans ho, h.size⟩
theorem KpS.trans {n0 Bn : Nat} {A B C : World} (h : KpS n0 Bn A B) (k : KpS n0 Bn B C) : KpS n0 Bn A C :=
  ⟨h.1.trans k.1, fun o ho => k.2.1 o (h.2.1 o ho), Nat.le_trans h.2.2 k.2.2⟩

/-- The walk's facts between two rounds. -/
def ItOk (w : World) (Bn : Nat) (A : Option Addr) (n c : Nat) (W : World) : Prop := Below w.heap.size w W ∧ W.heap[Bn]? = some (.cells #[.slice A n c] 22)

def VRec (x : Rec) (W : World) : Prop := Bo W x.A x.m x.c x.E.body

set_option maxRecDepth 100000 in
set_option maxHeartbeats 2000000 in
theorem records1 (n1 : Nat) (hn1 : 3 ≤ n1) (l Bn : Nat) (A : Option Addr) (n c : Nat) (xs : List UInt8) (w : World) (hb : Bs w A n c xs) (hn : n ≤ 100000000) (hBn : w.heap.size ≤ Bn) (J Jx : List Rec → World → Prop)
    (B0 : Nat) (hJ : AbidesFrom B0 J)
    (hY : ∀ pre x W1, J pre W1 → VRec x W1 → pre.length < (recs (n + 1) 0 xs).length → YieldAt Fence.wide (n1 - 1) Tryd.prog l #[recV x] W1 fun e W' =>
      (e = .returned (.bool true) ∧ J (pre ++ [x]) W' ∧ KpS w.heap.size Bn W1 W') ∨ (e = .returned (.bool false) ∧ Jx (pre ++ [x]) W'))
    (W : World) (hI : ItOk w Bn A n c W) (h0 : J [] W) :
    CallsIn Fence.wide n1 Tryd.prog 42 #[.func (.yield l) #[] #[], .pointer (some ⟨Bn, 0, none⟩)] W fun e W' => (∃ v, e = .returned v) ∧
      ((∃ ys : List Rec, ys.map Rec.key = recs (n + 1) 0 xs ∧ J ys W') ∨ (∃ pre : List Rec, (pre.map Rec.key <+: recs (n + 1) 0 xs) ∧ Jx pre W')) := by
  have hlen := Lib.hid hb.len
  refine callsIn_of_wp Tryd.func42 rfl trivial ?_ rfl
  simp only [Tryd.ntmps42, List.size_toArray, List.length_cons, List.length_nil, Nat.reduceAdd, Nat.reduceSub, Array.replicate_succ, Array.replicate_zero, List.push_toArray, List.append_toArray, List.nil_append, List.cons_append]
  gi_wp2
  gi_loopw [3] (fun s wr => ∃ (pre : List Rec) (p k : Nat), s = .int .i64 p ∧ p ≤ n ∧ n - p < k ∧ pre.map Rec.key ++ recs k p (xs.drop p) = recs (n + 1) 0 xs ∧ ItOk w Bn A n c wr ∧ J pre wr) (fun s _ => n - (intOf s).toNat)
  case atStart => exact ⟨[], 0, n + 1, rfl, by omega, by omega, rfl, hI, h0⟩
  case round =>
    obtain ⟨pre, p, k, rfl, hp, hk, hrec, hit, hJs⟩ := hrel
    obtain ⟨hcell, -⟩ := one_cell hit.2
    have HR := Lib.hid hrec
    clear hrec
    have hxl : (xs.drop p).length = n - p := by rw [List.length_drop, hlen.out]
    by_cases hpn : p = n
    · have hnil : xs.drop p = [] := List.eq_nil_of_length_eq_zero (by omega)
      have hlt : ¬ (p : Int) < n := by omega
      gi_wp2
      go_end0
      refine ⟨⟨_, rfl⟩, .inl ⟨pre, ?_, hJs⟩⟩
      obtain ⟨j, rfl⟩ : ∃ j, k = j + 1 := ⟨k - 1, by omega⟩
      have := HR.out
      rw [hnil] at this
      simpa [recs] using this
    · have hlt : (p : Int) < n := by omega
      obtain ⟨j, rfl⟩ : ∃ j, k = j + 1 := ⟨k - 1, by omega⟩
      have hne : xs.drop p ≠ [] := fun e => by rw [e] at hxl; simp at hxl; omega
      have hbW := hb.below hit.1
      obtain ⟨Al, hcut, htr⟩ := cut_l (P := Tryd.prog) 22 5 Tryd.underlying22 info5 A n c p (p : Int) rfl hp hb.le
      have hc := callsIn_wide (n := n1 - 1).2 (first_ok (htr _ _ hbW) (by omega))
      have hpl : pre.length < (recs (n + 1) 0 xs).length := by
        have h1 := congrArg List.length HR.out
        rw [List.length_append, List.length_map, recs, if_neg hne] at h1
        cases hf : fDec (xs.drop p) with
        | error cd => rw [hf] at h1; simp at h1; omega
        | ok x => rw [hf] at h1; simp at h1; omega
      cases hf : fDec (xs.drop p) with
      | error cd =>
        rw [hf] at hc
        have h1n : 1 ≤ n1 := by omega
        have hfct : ∀ w1 : World, Below wr.heap.size wr w1 → (w1.alloc En0).there w1.heap.size 0 3 ∧ ((w1.alloc En0).setCells w1.heap.size 0 [.int .i64 0, .string ByteArray.empty, .slice none 0 0]).rangeAt w1.heap.size 0 [.int .i64 0, .string ByteArray.empty, .slice none 0 0] := fun w1 _ =>
          ⟨there_block (heap_alloc_new _ _), World.rangeAt_setCells_same _ _ _ _ (there_block (heap_alloc_new _ _))⟩
        gi_wp2_with (first | (refine ⟨trivial, ?_⟩; gi_at_call 43; refine hc.mono ?_; rintro e w1 ⟨rfl, hB⟩; obtain ⟨hth, hrg⟩ := hfct w1 hB) | ((with_reducible refine store3In w1.heap.size 0 ByteArray.empty none 0 0 ?_ ?_ ?_ ?_); exact rfl; exact rfl; exact hth) | ((with_reducible refine load3In w1.heap.size 0 ByteArray.empty none 0 0 ?_ ?_ ?_); exact rfl; exact hrg))
        have hBy : Below wr.heap.size wr ((w1.alloc En0).setCells w1.heap.size 0 [.int .i64 0, .string ByteArray.empty, .slice none 0 0]) := setCells_below _ hB.size _ _ _ (hB.alloc hB.size _)
        have hJy := hJ pre wr _ none hJs (grown_of_below hBy none) (fun r e => by cases e)
        obtain ⟨fn, tm, asg, bd, hy, hR⟩ := hY pre ⟨En.zero, none, 0, 0, p, some cd⟩ _ hJy (Bo.zero _) hpl
        change Oper.uponIn _ _ _ _ _ _ _ (Sem.run Tryd.prog (Instr.yield l #[recV ⟨En.zero, none, 0, 0, p, some cd⟩]) ((w1.alloc En0).setCells w1.heap.size 0 [.int .i64 0, .string ByteArray.empty, .slice none 0 0]))
        rw [hy]
        have hlast : (pre ++ [(⟨En.zero, none, 0, 0, p, some cd⟩ : Rec)]).map Rec.key = recs (n + 1) 0 xs := by
          rw [← HR.out, List.map_append, recs, if_neg hne, hf]
          rfl
        gi_wp2
        refine hR.mono ?_
        rintro e W3 (⟨rfl, hJ3, hk3⟩ | ⟨rfl, hJx3⟩)
        · gi_wp2
          refine bodyPost_ret (results_none rfl _ _ _) rfl ?_
          exact ⟨⟨_, rfl⟩, .inl ⟨_, hlast, hJ3⟩⟩
        · gi_wp2
          refine bodyPost_ret (results_none rfl _ _ _) rfl ?_
          exact ⟨⟨_, rfl⟩, .inr ⟨_, by rw [hlast]; exact List.prefix_rfl, hJx3⟩⟩
      | ok x =>
        obtain ⟨E, m⟩ := x
        rw [hf] at hc
        have h1n : 1 ≤ n1 := by omega
        have hm := fDec_ok hf
        have hfct : ∀ (w1 : World) (A3 : Option Addr) (m3 c3 : Nat), Below wr.heap.size wr w1 → (w1.alloc En0).there w1.heap.size 0 3 ∧ ((w1.alloc En0).setCells w1.heap.size 0 [.int .i64 E.kind, .string (strOf E.key), .slice A3 m3 c3]).rangeAt w1.heap.size 0 [.int .i64 E.kind, .string (strOf E.key), .slice A3 m3 c3] := fun w1 _ _ _ _ =>
          ⟨there_block (heap_alloc_new _ _), World.rangeAt_setCells_same _ _ _ _ (there_block (heap_alloc_new _ _))⟩
        gi_wp2_with (first | (refine ⟨trivial, ?_⟩; gi_at_call 43; refine hc.mono ?_; rintro e w1 ⟨⟨v, rfl, A3, m3, c3, rfl, hbody⟩, hB⟩; obtain ⟨hth, hrg⟩ := hfct w1 A3 m3 c3 hB) | ((with_reducible refine store3In w1.heap.size E.kind (strOf E.key) A3 m3 c3 ?_ ?_ ?_ ?_); exact rfl; exact rfl; exact hth) | ((with_reducible refine load3In w1.heap.size E.kind (strOf E.key) A3 m3 c3 ?_ ?_ ?_); exact rfl; exact hrg))
        have hBy : Below wr.heap.size wr ((w1.alloc En0).setCells w1.heap.size 0 [.int .i64 E.kind, .string (strOf E.key), .slice A3 m3 c3]) := setCells_below _ hB.size _ _ _ (hB.alloc hB.size _)
        have hJy := hJ pre wr _ none hJs (grown_of_below hBy none) (fun r e => by cases e)
        have hVy : Bo ((w1.alloc En0).setCells w1.heap.size 0 [.int .i64 E.kind, .string (strOf E.key), .slice A3 m3 c3]) A3 m3 c3 E.body := bo_grown (hbody.below (below_al w1 En0)) (grown_sets _ _ _ _) (heap_alloc_new _ _) (by decide)
        obtain ⟨fn, tm, asg, bd, hy, hR⟩ := hY pre ⟨E, A3, m3, c3, p + m, none⟩ _ hJy hVy hpl
        change Oper.uponIn _ _ _ _ _ _ _ (Sem.run Tryd.prog (Instr.yield l #[recV ⟨E, A3, m3, c3, p + m, none⟩]) ((w1.alloc En0).setCells w1.heap.size 0 [.int .i64 E.kind, .string (strOf E.key), .slice A3 m3 c3]))
        rw [hy]
        gi_wp2
        refine hR.mono ?_
        rintro e W3 (⟨rfl, hJ3, hk3⟩ | ⟨rfl, hJx3⟩)
        · gi_wp2
          go_roundw
          case rel =>
            refine ⟨pre ++ [⟨E, A3, m3, c3, p + m, none⟩], p + m, j, rfl, by omega, by omega, ?_, ⟨hit.1.trans ((hBy.mono hit.1.size).trans hk3.1), hk3.2.1 _ ((hBy.block Bn (Array.getElem?_eq_some_iff.1 hit.2).1).trans hit.2)⟩, hJ3⟩
            rw [← HR.out, List.map_append, recs, if_neg hne, hf, List.append_assoc]
            dsimp only
            rw [List.drop_drop]
            rfl
          case measure => simp [intOf]; omega
        · gi_wp2
          refine bodyPost_ret (results_none rfl _ _ _) rfl ?_
          refine ⟨⟨_, rfl⟩, .inr ⟨_, ?_, hJx3⟩⟩
          rw [← HR.out, List.map_append, recs, if_neg hne, hf]
          exact ⟨recs j (p + m) ((xs.drop p).drop m), by simp [Rec.key]⟩

/-- ledger.records: the function value holds the box of its argument. -/
theorem records31 (A : Option Addr) (n c : Nat) (w : World) :
    Calls Tryd.prog 31 #[.slice A n c] w fun e w' => e = .returned (.func (.func 42) #[] #[.pointer (some ⟨w.heap.size, 0, none⟩)]) ∧ w' = w.alloc (.cells #[.slice A n c] 22) := by
  have hmf : ∀ (fn : Fn) (first cap : Array Value) (w : World), (Instr.makeFunc fn first cap).run Tryd.prog w = .ok (.func fn first cap) w := fun _ _ _ _ => rfl
  go_enter Tryd.func31, Tryd.ntmps31
  go_wp2_with fail
  go_ret
  exact ⟨rfl, rfl⟩

theorem records_stops (n1 : Nat) (hn1 : 3 ≤ n1) (Bn : Nat) (A : Option Addr) (n c : Nat) (xs : List UInt8) (w w0 : World) (hb : Bs w A n c xs) (hn : n ≤ 100000000) (hBn : w.heap.size ≤ Bn) (hI : ItOk w Bn A n c w0) :
    SeqV Fence.wide n1 Tryd.prog 42 #[.pointer (some ⟨Bn, 0, none⟩)] (fun x : Rec => #[recV x]) VRec (KpS w.heap.size Bn) (fun ys => ys.map Rec.key = recs (n + 1) 0 xs) (fun pre => pre.map Rec.key <+: recs (n + 1) 0 xs) (recs (n + 1) 0 xs).length w0 :=
  fun l J Jx W hW hJ _ hY h0 => records1 n1 hn1 l Bn A n c xs w hb hn hBn J Jx W.heap.size hJ hY W
    ⟨hI.1.trans (hW.mono hI.1.size), (hW.block Bn (Array.getElem?_eq_some_iff.1 hI.2).1).trans hI.2⟩ h0
end Go.Proofs.YtcohgkiloaapcaaDoor

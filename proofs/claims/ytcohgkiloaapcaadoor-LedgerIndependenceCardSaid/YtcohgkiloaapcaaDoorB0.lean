/- Words on memory that the seat's walks share: bytes that are read, rows that are appended to. No program stands in it. -/
import Derived.WalkKit
import Derived.WalkSpells
import Derived.WalkLawsBesides
import Derived.Outline
import Derived.BigQuiet
import Derived.Deep.QuietTactic
import Derived.OwnWalk
import Derived.Maps.AppendAt
import Derived.ArgAppend
import Derived.Below
import Derived.Lib.Hide
import Derived.Deep.AppendLies
import Derived.Deep.DeepMust
import Derived.Lib.ConvBytes
namespace Go.Proofs.YtcohgkiloaapcaaDoor
open Go.RowKit

/-- From A on the cells hold cs. -/
def Rd (w : World) (A : Option Addr) (cs : List Value) : Prop :=
  0 < cs.length → ∃ b o, A = some ⟨b, o, none⟩ ∧ ∀ j u, cs[j]? = some u → w.cell? ⟨b, o + j, none⟩ = some u

theorem Rd.nil (w : World) (A : Option Addr) : Rd w A [] := fun h => absurd h (by simp)

theorem Rd.below {w w' : World} {A : Option Addr} {cs : List Value} (h : Rd w A cs) (hb : Below w.heap.size w w') : Rd w' A cs := fun hn => by
  obtain ⟨b, o, e, hc⟩ := h hn
  exact ⟨b, o, e, fun j u hj => (hb.cell (World.block_lt_of_cell? w _ (hc j u hj))).trans (hc j u hj)⟩

theorem Rd.grown {w w' : World} {A : Option Addr} {cs : List Value} {row : Option Nat} (h : Rd w A cs) (hg : w.grownBy w' row) (hne : ∀ a, A = some a → some a.block ≠ row) : Rd w' A cs := fun hn => by
  obtain ⟨b, o, e, hc⟩ := h hn
  exact ⟨b, o, e, fun j u hj => hg.cell (hc j u hj) (fun h => hne _ e h)⟩

theorem Rd.own {w : World} {base : Nat} {e : TypeId} {size n : Nat} {A : Option Addr} {c : Nat} {xs : List Value} (h : w.ownsRow base e size (.slice A n c) n xs) : Rd w A xs := fun hn => by
  have hlen := h.1
  rcases h.2 with ⟨hv, rfl⟩ | ⟨g, cap, cur, hv, _⟩
  · simp at hlen; rw [hlen] at hn; simp at hn
  · injection hv with hA
    subst hA
    refine ⟨g, 0, rfl, fun j u hj => ?_⟩
    have := h.cells (g := g) rfl j u hj
    rwa [show (⟨g, 0, none⟩ : Addr).add j = ⟨g, 0 + j, none⟩ from Addr.add_lit _ _ _] at this

theorem own_shape {w : World} {base : Nat} {e : TypeId} {size n : Nat} {v : Value} {xs : List Value} (h : w.ownsRow base e size v n xs) : ∃ A c, v = .slice A n c ∧ n ≤ c ∧ c ≤ maxLen := by
  rcases h.2 with ⟨rfl, rfl⟩ | ⟨g, cap, cur, rfl, _, _, h1, h2, _⟩
  · exact ⟨none, 0, rfl, Nat.le_refl _, by simp [maxLen]⟩
  · exact ⟨_, cap, rfl, h1, h2⟩

/-- One byte's cell. -/
def by8 (x : UInt8) : Value := .int .u8 (x.toNat : Int)
def bys (xs : List UInt8) : List Value := xs.map by8
theorem bys_length (xs : List UInt8) : (bys xs).length = xs.length := by simp [bys]
theorem bys_append (xs ys : List UInt8) : bys (xs ++ ys) = bys xs ++ bys ys := by simp [bys]
theorem bys_one (xs : List UInt8) : ∀ u ∈ bys xs, u.oneCell' = true := by
  intro u hu
  obtain ⟨_, _, rfl⟩ := List.mem_map.1 hu
  rfl
theorem bys_get (xs : List UInt8) (k : Nat) (h : k < xs.length) : (bys xs)[k]? = some (.int .u8 (xs[k].toNat : Int)) := by simp [bys, by8, h]

/-- A slice of bytes that reads xs. -/
structure Bs (w : World) (A : Option Addr) (n c : Nat) (xs : List UInt8) : Prop where
  len : xs.length = n
  le : n ≤ c
  max : c ≤ 9223372036854775807
  rd : Rd w A (bys xs)

theorem Bs.below {w w' : World} {A : Option Addr} {n c : Nat} {xs : List UInt8} (h : Bs w A n c xs) (hb : Below w.heap.size w w') : Bs w' A n c xs := ⟨h.len, h.le, h.max, h.rd.below hb⟩

theorem Bs.at_ {w : World} {A : Option Addr} {n c : Nat} {xs : List UInt8} (h : Bs w A n c xs) (hn : 0 < n) : ∃ b o, A = some ⟨b, o, none⟩ ∧ ∀ j (hj : j < xs.length), w.cell? ⟨b, o + j, none⟩ = some (.int .u8 (xs[j].toNat : Int)) := by
  obtain ⟨b, o, e, hc⟩ := h.rd (by rw [bys_length, h.len]; exact hn)
  exact ⟨b, o, e, fun j hj => hc j _ (bys_get xs j hj)⟩

theorem Bs.nil (w : World) (A : Option Addr) (c : Nat) (hc : c ≤ 9223372036854775807) : Bs w A 0 c [] := ⟨rfl, Nat.zero_le _, hc, Rd.nil w A⟩

theorem Bs.own {w : World} {base : Nat} {e : TypeId} {n : Nat} {A : Option Addr} {c : Nat} {xs : List UInt8} (h : w.ownsRow base e 1 (.slice A n c) n (bys xs)) : Bs w A n c xs := by
  obtain ⟨A', c', hv, h1, h2⟩ := own_shape h
  injection hv with hA _ hc
  subst hA; subst hc
  exact ⟨by have := h.1; simpa [bys] using this, h1, by simpa [maxLen] using h2, Rd.own h⟩

section
variable {P : Program}

/-- append onto a row of one's own, of cells that are read (nil let in). -/
theorem run_app (w : World) (base : Nat) (t ty e : TypeId) (z : Value) (size bytes : Nat) (ht : P.underlying t = some (.slice e)) (hinfo : (P.info? e).map (fun i => (i.zero, i.size, i.bytes)) = some (some z, size, bytes))
    (hzs : z.cells.size = size) (hsz : 0 < size) (hb0 : 0 < bytes)
    (v : Value) (n : Nat) (xs : List Value) (hown : w.ownsRow base e size v n xs)
    (A : Option Addr) (m c : Nat) (news : List Value) (hl : news.length = m * size) (hrd : Rd w A news) (h1 : ∀ u ∈ news, u.oneCell' = true)
    (hbytes : (n + m) * bytes ≤ 140737488355328) (hbase : base ≤ w.heap.size) :
    ∃ v' w', (Builtin.append_ #[t, t] ty #[v, .slice A m c]).run P w = .ok v' w' ∧ w'.ownsRow base e size v' (n + m) (xs ++ news) ∧ w.grownBy w' v.ownBlock ∧
      (v'.ownBlock = v.ownBlock ∨ v'.ownBlock = some w.heap.size) := by
  obtain ⟨i, hi, hz0, hz1, hz2⟩ := info_parts hinfo
  have h63 : n + m ≤ maxLen := by
    have := Nat.le_mul_of_pos_right (n + m) hb0
    simp only [maxLen]; omega
  rcases A with _ | ad
  · have hm : m = 0 := by
      rcases Nat.eq_zero_or_pos m with h | h
      · exact h
      · exfalso
        obtain ⟨b, o, e, _⟩ := hrd (by rw [hl]; exact Nat.mul_pos h hsz)
        cases e
    subst hm
    obtain rfl : news = [] := List.eq_nil_of_length_eq_zero (by simpa using hl)
    refine ⟨v, w, ?_, by simpa using hown, World.grownBy.refl w _, .inl rfl⟩
    rcases hown.2 with ⟨rfl, hn⟩ | ⟨g, cap, cur, rfl, _, _, hnc, _⟩
    · simp [Builtin.append_, run_underlying ht, sizeOf, typeInfo, hi, Builtin.lenOf, Builtin.firstCells]
    · simp [Builtin.append_, run_underlying ht, sizeOf, typeInfo, hi, Builtin.lenOf, Builtin.firstCells, hnc, storeCells]
  · have hn : ∀ j u, news[j]? = some u → w.cell? (ad.add j) = some u := by
      intro j u hj
      have hlt : j < news.length := (List.getElem?_eq_some_iff.1 hj).1
      obtain ⟨b, o, e, hc⟩ := hrd (by omega)
      injection e with e
      subst e
      rw [Addr.add_lit]
      exact hc j u hj
    obtain ⟨v', w', hr, h2, h3, _, h5⟩ := run_append_own_at (P := P) w base t ty e i z size bytes ht hi hz0 hz1 hz2 hzs hsz v n xs hown ad m c news hl hn h1 h63 hbytes hbase
    exact ⟨v', w', hr, h2, h3, h5⟩

/-- append onto a slice without room (clipped, or nil), of at least one element. -/
theorem run_app_full (w : World) (t ty e : TypeId) (z : Value) (size bytes : Nat) (ht : P.underlying t = some (.slice e)) (hinfo : (P.info? e).map (fun i => (i.zero, i.size, i.bytes)) = some (some z, size, bytes))
    (hzs : z.cells.size = size) (hsz : 0 < size) (hb0 : 0 < bytes)
    (B : Option Addr) (n : Nat) (xs : List Value) (hlx : xs.length = n * size) (hrx : Rd w B xs)
    (ad : Addr) (m c : Nat) (news : List Value) (hl : news.length = m * size) (hrd : Rd w (some ad) news) (h1 : ∀ u ∈ news, u.oneCell' = true) (hm : 0 < m)
    (hbytes : (n + m) * bytes ≤ 140737488355328) :
    ∃ v' w', (Builtin.append_ #[t, t] ty #[.slice B n n, .slice (some ad) m c]).run P w = .ok v' w' ∧ w'.ownsRow w.heap.size e size v' (n + m) (xs ++ news) ∧ w.grownBy w' none := by
  obtain ⟨i, hi, hz0, hz1, hz2⟩ := info_parts hinfo
  have h63 : n + m ≤ maxLen := by
    have := Nat.le_mul_of_pos_right (n + m) hb0
    simp only [maxLen]; omega
  have hn : ∀ j u, news[j]? = some u → w.cell? (ad.add j) = some u := by
    intro j u hj
    have hlt : j < news.length := (List.getElem?_eq_some_iff.1 hj).1
    obtain ⟨b, o, e, hc⟩ := hrd (by omega)
    injection e with e
    subst e
    rw [Addr.add_lit]
    exact hc j u hj
  rcases B with _ | b
  · have hn0 : n = 0 := by
      rcases Nat.eq_zero_or_pos n with h | h
      · exact h
      · exfalso
        obtain ⟨b, o, e, _⟩ := hrx (by rw [hlx]; exact Nat.mul_pos h hsz)
        cases e
    subst hn0
    obtain rfl : xs = [] := List.eq_nil_of_length_eq_zero (by simpa using hlx)
    obtain ⟨v', w', hr, h2, h3, _⟩ := run_append_own (P := P) w w.heap.size t ty e i z size bytes ht hi hz0 hz1 hz2 hzs hsz (.slice none 0 0) 0 [] (World.ownsRow_nil w _ e size) ad m c news hl hn h1 h63 hbytes (Nat.le_refl _)
    exact ⟨v', w', hr, h2, h3⟩
  · have hx : ∀ j u, xs[j]? = some u → w.cell? (b.add j) = some u := by
      intro j u hj
      have hlt : j < xs.length := (List.getElem?_eq_some_iff.1 hj).1
      obtain ⟨b', o, e, hc⟩ := hrx (by omega)
      injection e with e
      subst e
      rw [Addr.add_lit]
      exact hc j u hj
    exact run_append_arg_grows (P := P) w t ty e i z size bytes ht hi hz0 hz1 hz2 hzs hsz b n n xs hlx hx ad m c news hl hn (by omega) h63 hbytes

/-- What can be appended to: a row of one's own, or what came in, clipped. -/
def App (w0 w : World) (e : TypeId) (size : Nat) (v : Value) (n : Nat) (xs : List Value) : Prop :=
  w.ownsRow w0.heap.size e size v n xs ∨ ∃ B, v = .slice B n n ∧ xs.length = n * size ∧ Rd w0 B xs

theorem run_App (w0 w : World) (t ty e : TypeId) (z : Value) (size bytes : Nat) (ht : P.underlying t = some (.slice e)) (hinfo : (P.info? e).map (fun i => (i.zero, i.size, i.bytes)) = some (some z, size, bytes))
    (hzs : z.cells.size = size) (hsz : 0 < size) (hb0 : 0 < bytes)
    (v : Value) (n : Nat) (xs : List Value) (happ : App w0 w e size v n xs) (hB : Below w0.heap.size w0 w)
    (ad : Addr) (m c : Nat) (news : List Value) (hl : news.length = m * size) (hrd : Rd w (some ad) news) (h1 : ∀ u ∈ news, u.oneCell' = true) (hm : 0 < m)
    (hbytes : (n + m) * bytes ≤ 140737488355328) :
    ∃ v' w', (Builtin.append_ #[t, t] ty #[v, .slice (some ad) m c]).run P w = .ok v' w' ∧ w'.ownsRow w0.heap.size e size v' (n + m) (xs ++ news) ∧ Below w0.heap.size w0 w' := by
  rcases happ with hown | ⟨B, rfl, hlx, hrx⟩
  · obtain ⟨v', w', hr, h2, h3, _⟩ := run_app (P := P) w w0.heap.size t ty e z size bytes ht hinfo hzs hsz hb0 v n xs hown (some ad) m c news hl hrd h1 hbytes hB.size
    exact ⟨v', w', hr, h2, hB.grown h3 hB.size (fun k hk => (hown.lt k hk).1)⟩
  · obtain ⟨v', w', hr, h2, h3⟩ := run_app_full (P := P) w t ty e z size bytes ht hinfo hzs hsz hb0 B n xs hlx (hrx.below hB) ad m c news hl hrd h1 hm hbytes
    refine ⟨v', w', hr, ?_, hB.grown h3 hB.size (fun k hk => by cases hk)⟩
    refine ⟨h2.1, ?_⟩
    rcases h2.2 with h | ⟨g, cap, cur, e1, e2, r⟩
    · exact .inl h
    · exact .inr ⟨g, cap, cur, e1, Nat.le_trans hB.size e2, r⟩

/-- append onto a row of one's own. -/
theorem run_own (w0 w : World) (t ty e : TypeId) (z : Value) (size bytes : Nat) (ht : P.underlying t = some (.slice e)) (hinfo : (P.info? e).map (fun i => (i.zero, i.size, i.bytes)) = some (some z, size, bytes))
    (hzs : z.cells.size = size) (hsz : 0 < size) (hb0 : 0 < bytes)
    (v : Value) (n : Nat) (xs : List Value) (hown : w.ownsRow w0.heap.size e size v n xs) (hB : Below w0.heap.size w0 w)
    (A : Option Addr) (m c : Nat) (news : List Value) (hl : news.length = m * size) (hrd : Rd w A news) (h1 : ∀ u ∈ news, u.oneCell' = true)
    (hbytes : (n + m) * bytes ≤ 140737488355328) :
    ∃ v' w', (Builtin.append_ #[t, t] ty #[v, .slice A m c]).run P w = .ok v' w' ∧ w'.ownsRow w0.heap.size e size v' (n + m) (xs ++ news) ∧ Below w0.heap.size w0 w' := by
  obtain ⟨v', w', hr, h2, h3, _⟩ := run_app (P := P) w w0.heap.size t ty e z size bytes ht hinfo hzs hsz hb0 v n xs hown A m c news hl hrd h1 hbytes hB.size
  exact ⟨v', w', hr, h2, hB.grown h3 hB.size (fun k hk => (hown.lt k hk).1)⟩

/-- An append in a walk, whatever its run is known to leave. -/
theorem wpList_of_append {ops : Array Oper} {rest : List Oper} {o : Oper} {a : Act} {Q : Exit → Act → World → Prop} {w : World} (hgd : o.guard = none) (s x : Operand) (t : TypeId) {t2 : TypeId}
    (ho : o.op = .call { callee := .builtin .append, args := #[s, x], argTypes := #[t, t2] }) {v y : Value} (hs : a.eval s = v) (hx : a.eval x = y)
    {R : Value → World → Prop} (hr : ∃ v' w', (Builtin.append_ #[t, t2] o.type #[v, y]).run P w = .ok v' w' ∧ R v' w')
    (h : ∀ v' w', R v' w' → wpList P ops Q rest (a.put o.dst v') w') : wpList P ops Q (o :: rest) a w := by
  obtain ⟨v', w', hrun, hR⟩ := hr
  refine wpList_plain hgd fun K hK => ?_
  unfold Oper.wp execOp
  simp only [ho, resolve, invoke, builtin, Sem.run_bind, Sem.run_pure, Result.andThen_ok, List.map_toArray, List.map_cons, List.map_nil, hs, hx, hrun]
  exact hK _ _ (h v' w' hR)
end

theorem Rd.new (w : World) (cs : Array Value) (t : TypeId) (fr : Nat × Nat) : Rd (w.alloc (.cells cs t fr)) (some ⟨w.heap.size, 0, none⟩) cs.toList := fun _ =>
  ⟨_, _, rfl, fun j u hj => by
    have := World.news_of_block (w := w.alloc (.cells cs t fr)) (B := w.heap.size) (heap_alloc_new w _) j u hj
    rwa [Addr.add_lit] at this⟩

theorem own_empty (w : World) (e : TypeId) (size : Nat) : (w.alloc (.cells #[] e)).ownsRow w.heap.size e size (.slice (some ⟨w.heap.size, 0, none⟩) 0 0) 0 [] :=
  World.ownsRow_made w #[] 0 (Nat.le_refl _) (by simp [maxLen]) (by simp)
theorem own_lower {w : World} {b b' : Nat} {e : TypeId} {size n : Nat} {v : Value} {xs : List Value} (h : w.ownsRow b e size v n xs) (hb : b' ≤ b) : w.ownsRow b' e size v n xs := by
  refine ⟨h.1, ?_⟩
  rcases h.2 with h | ⟨g, cap, cur, e1, e2, r⟩
  · exact .inl h
  · exact .inr ⟨g, cap, cur, e1, Nat.le_trans hb e2, r⟩
theorem own_below {w w' : World} {base : Nat} {e : TypeId} {size n : Nat} {v : Value} {xs : List Value} (h : w.ownsRow base e size v n xs) (hb : Below w.heap.size w w') : w'.ownsRow base e size v n xs :=
  h.kept (row := none) ⟨hb.os, hb.tape, hb.output, hb.size, fun i hi _ => hb.block i hi⟩ (by cases v.ownBlock <;> simp)
theorem below_then {w w1 w2 : World} (h : Below w.heap.size w w1) (k : Below w1.heap.size w1 w2) : Below w.heap.size w w2 := h.trans (k.mono h.size)

structure Fresh (w w' : World) (e : TypeId) (size : Nat) (v : Value) (n : Nat) (xs : List Value) : Prop where
  below : Below w.heap.size w w'
  own : w'.ownsRow w.heap.size e size v n xs

theorem App.alloc {w0 w : World} {e : TypeId} {size : Nat} {v : Value} {n : Nat} {xs : List Value} (h : App w0 w e size v n xs) (o : Obj) : App w0 (w.alloc o) e size v n xs :=
  h.imp (fun h => h.alloc o) id

/-- The call hands back a new row of the bytes xs; what was there before has not turned. -/
def RetB (E : TypeId) (xs : List UInt8) (w : World) (e : Ending) (w' : World) : Prop :=
  ∃ A n c, e = .returned (.slice A n c) ∧ Hid (xs.length = n) ∧ Below w.heap.size w w' ∧ w'.ownsRow w.heap.size E 1 (.slice A n c) n (bys xs)
theorem RetB.mk {E : TypeId} {xs : List UInt8} {w w' : World} {v : Value} {n : Nat} (hB : Below w.heap.size w w') (h : w'.ownsRow w.heap.size E 1 v n (bys xs)) : RetB E xs w (.returned v) w' := by
  obtain ⟨A, c, rfl, _⟩ := own_shape h
  exact ⟨A, n, c, rfl, Lib.hid (by have := h.1; rw [bys_length] at this; simpa using this), hB, h⟩

/-- The same, and a second result. -/
def RetB2 (E : TypeId) (xs : List UInt8) (u : Value) (w : World) (e : Ending) (w' : World) : Prop :=
  ∃ A n c, e = .returned (.tuple #[.slice A n c, u]) ∧ Hid (xs.length = n) ∧ Below w.heap.size w w' ∧ w'.ownsRow w.heap.size E 1 (.slice A n c) n (bys xs)
theorem RetB2.mk {E : TypeId} {xs : List UInt8} {u : Value} {w w' : World} {A : Option Addr} {n c : Nat} (hB : Below w.heap.size w w') (h : w'.ownsRow w.heap.size E 1 (.slice A n c) n (bys xs)) : RetB2 E xs u w (.returned (.tuple #[.slice A n c, u])) w' :=
  ⟨A, n, c, rfl, Lib.hid (by have := h.1; rw [bys_length] at this; simpa using this), hB, h⟩

theorem bys_of_ofNat (n : Nat) (h : n < 256) : Value.int .u8 (n : Int) = by8 (UInt8.ofNat n) := by
  simp [by8, Nat.mod_eq_of_lt h]

theorem cell_new (w w1 : World) (o : Obj) (cs : Array Value) (t : TypeId) (ho : o = .cells cs t) (hB : Below (w.alloc o).heap.size (w.alloc o) w1) (j : Nat) (u : Value) (hj : cs[j]? = some u) : w1.cell? ⟨w.heap.size, j, none⟩ = some u := by
  subst ho
  refine (hB.cell (p := ⟨w.heap.size, j, none⟩) (by simp)).trans ?_
  rw [cell_of_row (w.alloc (.cells cs t)) w.heap.size j cs t (0, 0) (heap_alloc_new w _)]
  exact hj

theorem ret_bool {a b : Bool} (h : a = b) : Ending.returned (.bool a) = .returned (.bool b) := by rw [h]
theorem ret_int {k : IntKind} {a b : Int} (h : a = b) : Ending.returned (.int k a) = .returned (.int k b) := by rw [h]

/-- What a region's loads ask of a world: two cells as they were, nothing below turned. -/
theorem cell_step {W W' : World} {a : Addr} {v : Value} (h : W.cell? a = some v) (hb : Below W.heap.size W W') : W'.cell? a = some v := (hb.cell (World.block_lt_of_cell? W a h)).trans h
theorem keep1 {w1 W W' : World} {a0 : Addr} {v0 : Value} (h : Below w1.heap.size w1 W ∧ W.cell? a0 = some v0) (hb : Below W.heap.size W W') : Below w1.heap.size w1 W' ∧ W'.cell? a0 = some v0 :=
  ⟨h.1.trans (hb.mono h.1.size), cell_step h.2 hb⟩
theorem keep2 {w1 W W' : World} {a0 a1 : Addr} {v0 v1 : Value} (h : Below w1.heap.size w1 W ∧ W.cell? a0 = some v0 ∧ W.cell? a1 = some v1) (hb : Below W.heap.size W W') : Below w1.heap.size w1 W' ∧ W'.cell? a0 = some v0 ∧ W'.cell? a1 = some v1 :=
  ⟨h.1.trans (hb.mono h.1.size), cell_step h.2.1 hb, cell_step h.2.2 hb⟩
theorem keep3 {w1 W W' : World} {a0 a1 a2 : Addr} {v0 v1 v2 : Value} (h : Below w1.heap.size w1 W ∧ W.cell? a0 = some v0 ∧ W.cell? a1 = some v1 ∧ W.cell? a2 = some v2) (hb : Below W.heap.size W W') : Below w1.heap.size w1 W' ∧ W'.cell? a0 = some v0 ∧ W'.cell? a1 = some v1 ∧ W'.cell? a2 = some v2 :=
  ⟨h.1.trans (hb.mono h.1.size), cell_step h.2.1 hb, cell_step h.2.2.1 hb, cell_step h.2.2.2 hb⟩
theorem below_drewN (w : World) (n : Nat) : Below w.heap.size w (w.drewN n) := ⟨rfl, rfl, rfl, Nat.le_refl _, fun _ _ => rfl⟩
theorem below_bytes (W : World) (e : TypeId) (s : ByteArray) : Below W.heap.size W (Lib.bytesWorld W e s) :=
  ⟨rfl, rfl, rfl, by rw [Lib.bytesWorld_size]; omega, fun i hi => Lib.bytesWorld_at_old W e s i hi⟩
/-- The bytes of a string. -/
def strB (s : ByteArray) : List UInt8 := s.data.toList
theorem strB_length (s : ByteArray) : (strB s).length = s.size := by rw [strB, Array.length_toList]; rfl
theorem bs_conv (W : World) (e : TypeId) (s : ByteArray) (hs : s.size ≤ 9223372036854775807) : Bs (Lib.bytesWorld W e s) (some ⟨W.heap.size, 0, none⟩) s.size (grownCap W s.size 0 e) (strB s) := by
  refine ⟨strB_length s, grownCap_ge _ _ _ _, by have := grownCap_le_maxLen W s.size 0 e (by simpa [maxLen] using hs); simpa [maxLen] using this, fun _ => ⟨_, _, rfl, fun j u hj => ?_⟩⟩
  have hlt : j < (strB s).length := by
    have := (List.getElem?_eq_some_iff.1 hj).1
    rwa [bys_length] at this
  rw [bys_get _ _ hlt] at hj
  cases hj
  rw [Nat.zero_add, Lib.bytesWorld_cell W e s j (by rw [← strB_length]; exact hlt)]
  have : s.data.toList.getD j 0 = (strB s)[j] := by
    rw [List.getD_eq_getElem?_getD]
    simp [strB] at hlt ⊢
    simp [hlt]
  rw [this]
theorem bs_take {w : World} {A : Option Addr} {n c : Nat} {xs : List UInt8} (h : Bs w A n c xs) (m : Nat) (hm : m ≤ n) : Bs w A m c (xs.take m) := by
  have hl := h.len
  refine ⟨by simp [hl, hm], by have := h.le; omega, h.max, fun hp => ?_⟩
  rw [bys_length, List.length_take] at hp
  obtain ⟨b, o, rfl, hc⟩ := h.rd (by rw [bys_length]; omega)
  refine ⟨b, o, rfl, fun j u hj => hc j u ?_⟩
  have hlt : j < (bys (xs.take m)).length := (List.getElem?_eq_some_iff.1 hj).1
  rw [bys_length, List.length_take] at hlt
  rw [bys_get _ _ (by rw [List.length_take]; omega)] at hj
  rw [bys_get _ _ (by omega)]
  simpa using hj


theorem bs_drop {w : World} {A : Option Addr} {n c : Nat} {xs : List UInt8} (h : Bs w A n c xs) (m : Nat) (hm : m ≤ n) : Bs w (if c = m then A else A.map (·.add m)) (n - m) (c - m) (xs.drop m) := by
  have hl := h.len
  refine ⟨by rw [List.length_drop, hl], by have := h.le; omega, by have := h.max; omega, fun hp => ?_⟩
  rw [bys_length, List.length_drop] at hp
  have hlt := h.le
  rw [if_neg (by omega)]
  obtain ⟨b, o, rfl, hc⟩ := h.rd (by rw [bys_length]; omega)
  refine ⟨b, o + m, by simp [Addr.add_lit], fun j u hj => ?_⟩
  have hlt : j < (bys (xs.drop m)).length := (List.getElem?_eq_some_iff.1 hj).1
  rw [bys_length, List.length_drop] at hlt
  have := hc (m + j) u (by
    rw [bys_get _ _ (by rw [List.length_drop]; omega)] at hj
    rw [bys_get _ _ (by omega)]
    simpa using hj)
  rwa [show o + (m + j) = o + m + j by omega] at this

section
variable {P : Program}
/-- 'xs[lo:hi]'; the address is a letter. -/
theorem cut_lh (t e : TypeId) {u : Value} {b : Nat} (ht : P.underlying t = some (.slice e)) (hinfo : (P.info? e).map (fun i => (i.zero, i.size, i.bytes)) = some (some u, 1, b)) (A : Option Addr) (n c lo hi : Nat) (L H : Int) (hL : L = lo) (hH : H = hi) (h1 : lo ≤ hi) (h2 : hi ≤ n) (hc : n ≤ c) :
    ∃ A', (∀ W : World, (Instr.slice t (.slice A n c) (some (.int .i64 L)) (some (.int .i64 H)) none).run P W = .ok (.slice A' (hi - lo) (c - lo)) W) ∧ ∀ w xs, Bs w A n c xs → Bs w A' (hi - lo) (c - lo) ((xs.take hi).drop lo) := by
  obtain ⟨i, hi0, _, hz1, _⟩ := info_parts hinfo
  subst hL hH
  refine ⟨if c = lo then A else A.map (·.add lo), fun W => ?_, fun w xs h => bs_drop (bs_take h hi h2) lo h1⟩
  have hel : P.elem t = e := by simp [Program.elem, ht]
  have hu : P.underlying t = some (.slice (P.elem t)) := by rw [hel]; exact ht
  rw [run_slice_lh W t A n c hu .i64 .i64 lo hi (by omega) (by omega) (by omega), hel]
  simp [sizeOf, typeInfo, hi0, hz1, sliced, Result.andThen]
/-- 'xs[lo:]' -/
theorem cut_l (t e : TypeId) {u : Value} {b : Nat} (ht : P.underlying t = some (.slice e)) (hinfo : (P.info? e).map (fun i => (i.zero, i.size, i.bytes)) = some (some u, 1, b)) (A : Option Addr) (n c lo : Nat) (L : Int) (hL : L = lo) (h1 : lo ≤ n) (hc : n ≤ c) :
    ∃ A', (∀ W : World, (Instr.slice t (.slice A n c) (some (.int .i64 L)) none none).run P W = .ok (.slice A' (n - lo) (c - lo)) W) ∧ ∀ w xs, Bs w A n c xs → Bs w A' (n - lo) (c - lo) (xs.drop lo) := by
  obtain ⟨i, hi0, _, hz1, _⟩ := info_parts hinfo
  subst hL
  refine ⟨if c = lo then A else A.map (·.add lo), fun W => ?_, fun w xs h => bs_drop h lo h1⟩
  have hel : P.elem t = e := by simp [Program.elem, ht]
  have hu : P.underlying t = some (.slice (P.elem t)) := by rw [hel]; exact ht
  rw [run_slice_l W t A n c hu .i64 lo (by omega) (by omega), hel]
  simp [sizeOf, typeInfo, hi0, hz1, sliced, Result.andThen]
/-- 'xs[:hi]' -/
theorem cut_h (t e : TypeId) {u : Value} {b : Nat} (ht : P.underlying t = some (.slice e)) (hinfo : (P.info? e).map (fun i => (i.zero, i.size, i.bytes)) = some (some u, 1, b)) (A : Option Addr) (n c hi : Nat) (H : Int) (hH : H = hi) (h2 : hi ≤ n) (hc : n ≤ c) :
    ∃ A', (∀ W : World, (Instr.slice t (.slice A n c) none (some (.int .i64 H)) none).run P W = .ok (.slice A' hi c) W) ∧ ∀ w xs, Bs w A n c xs → Bs w A' hi c (xs.take hi) := by
  obtain ⟨i, hi0, _, hz1, _⟩ := info_parts hinfo
  subst hH
  refine ⟨if c = 0 then A else A.map (·.add 0), fun W => ?_, fun w xs h => by have := bs_drop (bs_take h hi h2) 0 (Nat.zero_le _); simpa using this⟩
  have hel : P.elem t = e := by simp [Program.elem, ht]
  have hu : P.underlying t = some (.slice (P.elem t)) := by rw [hel]; exact ht
  rw [run_slice_h W t A n c hu .i64 hi (by omega) (by omega), hel]
  simp [sizeOf, typeInfo, hi0, hz1, sliced, Result.andThen]
end
end Go.Proofs.YtcohgkiloaapcaaDoor

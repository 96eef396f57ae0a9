/- What the rows of the laws share: arguments opened, the listed variable's cell, what a law's call leaves. -/
import Derived.Test.YtcohgkiloaapcaaDoorRows
import Derived.Test.YtcohgkiloaapcaaDoorP0
import Derived.ChangeSame
import Derived.ChangeVars
import Derived.JoinedOf
import Derived.RowKit
import Derived.RowKitTokens
import Derived.LaidLaws
import Derived.LaidHandle
import Derived.Stop.Joined
import Derived.Carry
import Derived.Deep.Slices
import Derived.ChangeSlices
import Derived.OpenVars
import Derived.SevenTiedAt
namespace Go.Proofs.YtcohgkiloaapcaaDoor
open Go.ChangeShapes Go.WideShapes Go.RowKit Go.Deep

theorem own : ownKnob Tryd.prog.godebug = none := by kernel_rfl
theorem laidOut : laidOutB Tryd.prog = true := by kernel_rfl
theorem typesSize : Tryd.prog.types.size = 157 := by kernel_rfl
theorem etGlobal : Tryd.prog.globalNamed "errors.errorType" = some 0 := by kernel_rfl
theorem rtType : (Tryd.prog.cutTypes.find? (·.1 == "internal/reflectlite.rtype")).map (·.2) = some 96 := by kernel_rfl
theorem oneRow : ((List.range 157).filter fun t => Tryd.prog.rowNamed t [101, 114, 114, 111, 114]) = [62] := by kernel_rfl

/-- The list of all eight rows. -/
def laidL : List (String × DataW Unit) := [("errors.errorType", Rows.laid_errors_errorType)]
theorem gok_of_laid {W : World} (h : laidMetH Tryd.prog laidL W) : GOk W := by
  have h' : laidMet Tryd.prog [] W ∧ handlesMet Tryd.prog laidL W := h
  obtain ⟨name, u, ty, e1, e2, e3, e4, e5⟩ := h'.2 _ (List.mem_singleton.2 rfl)
  have en : name = [101, 114, 114, 111, 114] := (Option.some.inj e1).symm
  subst en
  obtain rfl := Option.some.inj (rtType.symm.trans e2)
  have hm : ty ∈ (List.range 157).filter fun t => Tryd.prog.rowNamed t [101, 114, 114, 111, 114] := List.mem_filter.2 ⟨List.mem_range.2 (by rw [← typesSize]; exact e3), e4⟩
  rw [oneRow] at hm
  obtain rfl := List.mem_singleton.1 hm
  have hh : typeHandle Tryd.prog 62 = .pointer (some ⟨1, 62, none⟩) := by kernel_rfl
  rw [hh] at e5
  simpa [GOk] using World.var?_cell etGlobal e5 0

/-- A world that meets the list. -/
noncomputable def laidWorld (os : Os) : World :=
  let w0 := World.holding Tryd.prog os ⟨#[], #[], []⟩
  { w0 with heap := w0.heap.modify 0 fun
      | .cells _ t frozen => .cells #[.iface 96 (.agg #[.pointer (some ⟨1, 62, none⟩)])] t frozen
      | o => o }
theorem laidWorld_met (os : Os) (args : Array Value) : laidMetH Tryd.prog laidL ((laidWorld os).forCall (fun _ _ => 0) ⟨#[], args, []⟩).memory :=
  laidMetH_of_parts (laidMet_nil _ _) (by kernel_rfl)

/-! Arguments. -/
theorem u8_wf {n : Int} (h : (Lit.int IntKind.u8 n).wf = true) : 0 ≤ n ∧ n < 256 := by
  simp only [Lit.wf, Bool.and_eq_true, decide_eq_true_eq] at h
  have h1 : IntKind.u8.min = 0 := by decide
  have h2 : IntKind.u8.max = 255 := by decide
  omega

section
variable {H : Type} {enc : TypeId × Value → H} {W : World} {base : Nat} {held : Bool}

theorem u16_wf {n : Int} (h : (Lit.int IntKind.u16 n).wf = true) : 0 ≤ n ∧ n < 65536 := by
  simp only [Lit.wf, Bool.and_eq_true, decide_eq_true_eq] at h
  have h1 : IntKind.u16.min = 0 := by decide
  have h2 : IntKind.u16.max = 65535 := by decide
  omega

theorem mem_weightsAll {P : Program} {e : TypeId} : ∀ {ds : List (DataW H)} {d : DataW H}, d ∈ ds → ∀ n ∈ d.weights P e, n ∈ DataW.weightsAll P e ds
  | d0 :: ds, d, hd, n, hn => by
    simp only [DataW.weightsAll, List.mem_append]
    rcases List.mem_cons.1 hd with rfl | hd
    · exact .inl hn
    · exact .inr (mem_weightsAll hd n hn)

theorem lit_of_cell {a : Addr} {v : Value} (h : W.cell? a = some v) : a = ⟨a.block, a.off, none⟩ := by
  cases a with
  | mk b o s =>
    cases s with
    | none => rfl
    | some s =>
      unfold World.cell? at h
      split at h <;> simp at h

theorem open_bytes {fuel : Nat} {cs : List Value} {x : DataW H × List MemPlace} (h : DataW.trod enc Tryd.prog W base (fun _ => true) held fuel 22 cs = some x) (hw : ∀ n ∈ x.1.weights Tryd.prog 22, n ≤ reachBytes) :
    ∃ A n c xs, cs = [.slice A n c] ∧ Bs W A n c xs ∧ n ≤ 140737488355328 := by
  rcases open_ints Tryd.underlying22 Tryd.underlying5 (by kernel_rfl) h with ⟨rfl, _⟩ | ⟨a, len, cap, zs, rfl, _, hlc, hcm, hzl, rfl, hcell, hwf⟩
  · exact ⟨none, 0, 0, [], rfl, es_nil _, by decide⟩
  · simp only [if_true] at hzl
    have hb1 : Tryd.prog.bytesOf 5 = 1 := by kernel_rfl
    have hbnd := hw ((lits (H := H) .u8 (zs.take len)).length + (lits (H := H) .u8 (zs.drop len)).length) (by
      have : ∀ n : Nat, n = n * Tryd.prog.bytesOf 5 := fun n => by rw [hb1, Nat.mul_one]
      simp only [DataW.weights, Tryd.underlying22]
      rw [← this]
      exact List.mem_cons_self)
    simp only [lits, List.length_map, List.length_take, List.length_drop, reachBytes] at hbnd
    unfold maxLen at hcm
    refine ⟨some a, len, cap, (zs.take len).map fun z => UInt8.ofNat z.toNat, rfl, ⟨by rw [List.length_map, List.length_take]; omega, hlc, hcm, fun hp => ?_⟩, by omega⟩
    rw [bys_length, List.length_map, List.length_take] at hp
    have h0 := hcell 0 (by omega)
    have ha : a = ⟨a.block, a.off, none⟩ := lit_of_cell (by simpa [Addr.add] using h0)
    refine ⟨a.block, a.off, by rw [← ha], fun j u hj => ?_⟩
    have hjl : j < ((zs.take len).map fun z => UInt8.ofNat z.toNat).length := by
      have := (List.getElem?_eq_some_iff.1 hj).1
      rwa [bys_length] at this
    rw [bys_get _ _ hjl] at hj
    cases hj
    rw [List.length_map, List.length_take] at hjl
    have hj2 := hcell j (by omega)
    rw [ha, Addr.add_lit] at hj2
    rw [hj2]
    have hz : zs[j]? = some (zs.getD j 0) := by
      rw [List.getD_eq_getElem?_getD, List.getElem?_eq_getElem (by omega)]; rfl
    have hr := hwf _ (List.mem_of_getElem? hz)
    have hr2 := u8_wf hr
    have hg : zs[j]'(by omega) = zs.getD j 0 := by
      rw [List.getD_eq_getElem?_getD, List.getElem?_eq_getElem (by omega)]; rfl
    simp only [List.getElem_map, List.getElem_take, hg]
    rw [toNat_ofNat (by omega), Int.toNat_of_nonneg hr2.1]

instance : Inhabited Rec := ⟨⟨⟨0, [], []⟩, none, 0, 0, 0, none⟩⟩

set_option maxRecDepth 20000 in
theorem open_entry {fuel : Nat} {cs : List Value} {x : DataW H × List MemPlace} (h : DataW.trod enc Tryd.prog W base (fun _ => true) held fuel 25 cs = some x) (hw : ∀ n ∈ x.1.weights Tryd.prog 25, n ≤ reachBytes) :
    ∃ y : Rec, cs = newE y ∧ Bs W y.A y.m y.c y.E.body ∧ y.E.key.length ≤ 140737488355328 ∧ y.m ≤ 140737488355328 := by
  obtain ⟨xs, n, _, hx, hlen, hxl, hf⟩ := DataW.trod_struct Tryd.underlying25 h
  have hc : Tryd.prog.cellsOf 25 = 3 := by kernel_rfl
  have hc3 : Tryd.prog.cellsOf 3 = 1 := by kernel_rfl
  have hc9 : Tryd.prog.cellsOf 9 = 1 := by kernel_rfl
  have hc22 : Tryd.prog.cellsOf 22 = 1 := by kernel_rfl
  rw [hc] at hlen
  match cs, hlen with
  | [c0, c1, c2], _ =>
    match xs, hxl with
    | [x0, x1, x2], _ =>
      have f0 : DataW.trod enc Tryd.prog W base (fun _ => true) held n 3 (([c0, c1, c2].drop 0).take (Tryd.prog.cellsOf 3)) = some x0 := hf 0 _ rfl
      have f1 : DataW.trod enc Tryd.prog W base (fun _ => true) held n 9 (([c0, c1, c2].drop 1).take (Tryd.prog.cellsOf 9)) = some x1 := hf 1 _ rfl
      have f2 : DataW.trod enc Tryd.prog W base (fun _ => true) held n 22 (([c0, c1, c2].drop 2).take (Tryd.prog.cellsOf 22)) = some x2 := hf 2 _ rfl
      rw [hc3] at f0
      rw [hc9] at f1
      rw [hc22] at f2
      simp only [List.drop_zero, List.drop_succ_cons, List.take_succ_cons, List.take_zero] at f0 f1 f2
      obtain ⟨k, h0, _, _⟩ := DataW.trod_int Tryd.underlying3 f0
      obtain ⟨s, h1, h1d, _⟩ := DataW.trod_string Tryd.underlying9 f1
      have hx1 : x.1 = .agg [x0.1, x1.1, x2.1] := by rw [hx]; rfl
      have hin : ∀ n, n ∈ x1.1.weights Tryd.prog 9 ∨ n ∈ x2.1.weights Tryd.prog 22 → n ≤ reachBytes := fun n hn => hw n (by
        rw [hx1]
        simp only [DataW.weights, Tryd.underlying25, List.map_cons, List.map_nil, DataW.weightsEach, List.mem_append]
        rcases hn with hn | hn
        · exact .inr (.inl hn)
        · exact .inr (.inr (.inl hn)))
      obtain ⟨A, m, c, body, h2, hb, hm⟩ := open_bytes f2 (fun n hn => hin n (.inr hn))
      have hs : s.data.toList.length ≤ reachBytes := hin _ (.inl (by rw [h1d]; simp [DataW.weights]))
      simp only [List.cons.injEq, and_true] at h0 h1 h2
      refine ⟨⟨⟨k, strB s, body⟩, A, m, c, 0, none⟩, ?_, hb, ?_, hm⟩
      · rw [h0, h1, h2]; rfl
      · unfold strB
        have : reachBytes ≤ 140737488355328 := by decide
        exact Nat.le_trans hs this

theorem open_entries {fuel : Nat} {cs : List Value} {x : DataW H × List MemPlace} (h : DataW.trod enc Tryd.prog W base (fun _ => true) held fuel 23 cs = some x) (hw : ∀ n ∈ x.1.weights Tryd.prog 23, n ≤ reachBytes) :
    ∃ A n c xs, cs = [.slice A n c] ∧ EsIn W A n c xs := by
  have hc : Tryd.prog.cellsOf 25 = 3 := by kernel_rfl
  have hb48 : Tryd.prog.bytesOf 25 = 48 := by kernel_rfl
  rcases open_slice Tryd.underlying23 h with ⟨rfl, _⟩ | ⟨a, len, cap, m, fu, D, Pl, rfl, _, hlc, hcm, hm, rfl, hi⟩
  · exact ⟨none, 0, 0, [], rfl, ⟨rfl, by decide, by decide, Rd.nil _ _, fun x hx => by cases hx⟩, by decide, fun x hx => by cases hx⟩
  · rw [hc] at hi
    have hml : len ≤ m := by rw [hm]; split <;> omega
    have hbnd : len * 48 ≤ reachBytes := by
      have := hw ((((List.range len).map D).length + ((List.range (m - len)).map fun j => D (len + j)).length) * Tryd.prog.bytesOf 25) (by
        simp only [DataW.weights, Tryd.underlying23]
        exact List.mem_cons_self)
      rw [hb48, List.length_map, List.length_map, List.length_range, List.length_range] at this
      exact Nat.le_trans (Nat.mul_le_mul_right _ (by omega)) this
    have hw2 : ∀ i, i < len → ∀ n ∈ (D i).weights Tryd.prog 25, n ≤ reachBytes := fun i hil n hn => hw n (by
      simp only [DataW.weights, Tryd.underlying23, List.mem_cons, List.mem_append]
      exact .inr (.inl (mem_weightsAll (List.mem_map.2 ⟨i, List.mem_range.2 hil, rfl⟩) n hn)))
    obtain ⟨f, hf⟩ := choose_lt (α := Rec) (n := len) (p := fun i y => (∀ t u, (newE y)[t]? = some u → W.cell? (a.add (i * 3 + t)) = some u) ∧ Bs W y.A y.m y.c y.E.body ∧ y.E.key.length ≤ 140737488355328 ∧ y.m ≤ 140737488355328) (fun i hil => by
      obtain ⟨cs', hcs, htr⟩ := hi i (by omega)
      obtain ⟨_, hl3, hcell⟩ := World.cells?_some hcs
      obtain ⟨y, rfl, hb, hk, hm'⟩ := open_entry htr (hw2 i hil)
      refine ⟨y, fun t u hu => ?_, hb, hk, hm'⟩
      have ht : t < 3 := by have := (List.getElem?_eq_some_iff.1 hu).1; simpa [newE] using this
      have := hcell t ht
      rw [Go.Deep.add_add] at this
      rw [this, hu])
    unfold maxLen at hcm
    have hall : ∀ (P : Rec → Prop), (∀ i, i < len → P (f i)) → ∀ x, x ∈ (List.range len).map f → P x := fun P hP x hx => by
      obtain ⟨i, hi', rfl⟩ := List.mem_map.1 hx
      exact hP i (List.mem_range.1 hi')
    refine ⟨some a, len, cap, (List.range len).map f, rfl, ⟨by rw [List.length_map, List.length_range], hlc, hcm, fun hp => ?_, hall _ fun i hil => (hf i hil).2.1⟩, ?_, hall _ fun i hil => (hf i hil).2.2⟩
    · rw [rowsOf_length, List.length_map, List.length_range] at hp
      have h0 := (hf 0 (by omega)).1 0 _ rfl
      have ha : a = ⟨a.block, a.off, none⟩ := lit_of_cell (by simpa [Addr.add] using h0)
      refine ⟨a.block, a.off, by rw [← ha], fun j u hj => ?_⟩
      have hjl : j < len * 3 := by
        have := (List.getElem?_eq_some_iff.1 hj).1
        rwa [rowsOf_length, List.length_map, List.length_range] at this
      have hdi : j / 3 < len := by omega
      have hget := rowsOf_get ((List.range len).map f) (j / 3) (by rw [List.length_map, List.length_range]; exact hdi) (j % 3) (by omega)
      rw [show 3 * (j / 3) + j % 3 = j by omega, hj] at hget
      have hfi : ((List.range len).map f)[j / 3]'(by rw [List.length_map, List.length_range]; exact hdi) = f (j / 3) := by simp
      rw [hfi] at hget
      have := (hf (j / 3) hdi).1 (j % 3) u hget.symm
      rw [ha, Addr.add_lit, show j / 3 * 3 + j % 3 = j by omega] at this
      exact this
    · have : reachBytes ≤ 140737488355328 := by decide
      omega

/-- Arguments read behind the call as they did. -/
theorem args_same : ∀ {ts : List TypeId} {vs : List Value} {ds : List (DataW H)} {ps : List MemPlace} {W' : World}, (∀ t ∈ ts, Tryd.prog.readableRec t = true ∧ t < Tryd.prog.types.size) → DataW.TrodAll enc Tryd.prog W 0 (fun _ => true) true ts vs ds ps → Below W.heap.size W W' → (∀ x ∈ ps, x.block < W.heap.size) →
    DataW.TrodAll enc Tryd.prog W' 0 (fun b => decide (b < W.heap.size)) true ts vs ds ps
  | [], [], [], ps, W', _, h, _, _ => h
  | t :: ts, v :: vs, d :: ds, ps, W', ht, h, hB, hlt => by
    obtain ⟨p, q, h1, h2, e⟩ := h
    refine ⟨p, q, Below.trod laidOut (ht t List.mem_cons_self).1 (ht t List.mem_cons_self).2 h1 hB (fun x hx => hlt x (by rw [e]; exact List.mem_append_left _ hx)), args_same (fun t' h' => ht t' (List.mem_cons_of_mem _ h')) h2 hB (fun x hx => hlt x (by rw [e]; exact List.mem_append_right _ hx)), e⟩
  | [], _ :: _, _, _, _, _, h, _, _ => h.elim
  | [], [], _ :: _, _, _, _, h, _, _ => h.elim
  | _ :: _, [], _, _, _, _, h, _, _ => h.elim
  | _ :: _, _ :: _, [], _, _, _, h, _, _ => h.elim

/-- What a law's row asks behind the call. -/
theorem post_law {f : Func} {s : ChangeSpec} {W' : World} {args : Array Value} {ds gs : List (DataW H)} {before : List MemPlace} (hW : DataW.Whole enc Tryd.prog f.params.toList s.vars false W args.toList ds gs before) (hv : s.vars = [])
    (hs : s.fn H (ds ++ gs) = { results := [.lit (.bool true)], args := ds }) (hp : ∀ t ∈ f.params.toList, Tryd.prog.readableRec t = true ∧ t < Tryd.prog.types.size) (hr : f.resultTypes = #[4]) (hB : Below W.heap.size W W') :
    s.post enc Tryd.prog f false true false false W args (.bool true) W' := by
  have hlt := hW.lt
  obtain ⟨p, q, hA, hV, rfl, hz, hn⟩ := hW
  have hV' := hV
  rw [hv] at hV'
  obtain ⟨rfl, rfl⟩ : gs = [] ∧ q = [] := by
    cases gs with
    | nil => exact ⟨rfl, hV'⟩
    | cons g r => exact absurd hV' (by intro h; cases h)
  have hlt' : ∀ x ∈ p, x.block < W.heap.size := fun x hx => hlt x (List.mem_append_left _ hx)
  refine ⟨ds, [], p ++ [], [], p, [], ⟨p, [], hA, hV, rfl, hz, hn⟩, ?_, ?_, ?_, hB.frame _, fun h => by cases h⟩
  · rw [hs, hr]
    exact trodAll_mk1 (shut_bool Tryd.underlying4 true)
  · rw [hs]
    exact args_same hp hA hB hlt'
  · rw [hs, hv]
    rfl
end
theorem readables : ∀ t : TypeId, t ∈ [(22 : TypeId), 23, 25, 44, 5, 50] → Tryd.prog.readableRec t = true ∧ t < Tryd.prog.types.size := by
  intro t ht
  rw [typesSize]
  simp only [List.mem_cons, List.not_mem_nil, or_false] at ht
  rcases ht with rfl | rfl | rfl | rfl | rfl | rfl <;> exact ⟨by kernel_rfl, by decide⟩
theorem noStands : ∀ t : TypeId, t ∈ [(22 : TypeId), 23, 25, 44, 5, 50] → Tryd.prog.wantsStandIn t = false := by
  intro t ht
  simp only [List.mem_cons, List.not_mem_nil, or_false] at ht
  rcases ht with rfl | rfl | rfl | rfl | rfl | rfl <;> kernel_rfl
end Go.Proofs.YtcohgkiloaapcaaDoor

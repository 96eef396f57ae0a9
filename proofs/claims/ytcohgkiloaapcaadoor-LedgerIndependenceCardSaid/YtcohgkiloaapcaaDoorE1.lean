/- Contracts: errors.As, at the ledger's own error type. -/
import Derived.Test.YtcohgkiloaapcaaDoorE0
namespace Go.Proofs.YtcohgkiloaapcaaDoor
open Go.RowKit Go.Extern Go.Extern.Rtype

/-- An entry of two arguments, at two. -/
theorem two_args (v x : Value) (f : Value → Value → Sem Value) (g : Array Value → Sem Value) : ReflectliteValue.set.match_3 (fun _ => Sem Value) #[v, x] f g = f v x := rfl
theorem parts66a (a : Addr) (w : World) : (ReflectliteValue.parts (.agg #[.pointer (some ⟨1, 66, none⟩), .pointer (some a), .int .u64 409])).run Tryd.prog w = .ok (some (66, a, 409)) w := by
  kernel_rfl
theorem parts66b (a : Addr) (w : World) : (ReflectliteValue.parts (.agg #[.pointer (some ⟨1, 66, none⟩), .pointer (some a), .int .u64 153])).run Tryd.prog w = .ok (some (66, a, 153)) w := by
  kernel_rfl
theorem set66 (p b : Nat) (cd x : Int) (w : World) (hp : w.heap[p]? = some (.cells #[.int .i64 x] 66)) (hb : w.heap[b]? = some (.cells #[.int .i64 cd] 66)) :
    (callFunc 59 #[.agg #[.pointer (some ⟨1, 66, none⟩), .pointer (some ⟨p, 0, none⟩), .int .u64 409], .agg #[.pointer (some ⟨1, 66, none⟩), .pointer (some ⟨b, 0, none⟩), .int .u64 153]]).run Tryd.prog w = .ok (.value (.tuple #[])) (w.setCell ⟨p, 0, none⟩ (.int .i64 cd)) := by
  have hda : (directlyAssignable 66 66).run Tryd.prog w = .ok true w := by kernel_rfl
  have hu : Tryd.prog.underlying 66 = some (.struct #[⟨"code", 30, 0, false, "", "armillary/ledger", 0⟩]) := by kernel_rfl
  have hl := run_loadVar_mid (P := Tryd.prog) w b 0 66 [.int .i64 cd] _ (World.rangeAt_of_block hb 0 1) hu rfl (by kernel_rfl)
  have hs := run_storeVar_mid (P := Tryd.prog) w p 0 66 #[.int .i64 cd] (fun j hj => by
    obtain rfl : j = 0 := by simp at hj; omega
    have := one_cell hp
    exact ⟨by rw [this.1]; rfl, this.2⟩) (by kernel_rfl) (by simp [Value.oneCell'])
  have h1 := parts66a ⟨p, 0, none⟩ w
  have h2 := parts66b ⟨b, 0, none⟩ w
  rw [run_callFunc_extern (e := ReflectliteValue.set) Tryd.func59 (by kernel_rfl) (by kernel_rfl) (by kernel_rfl) (by kernel_rfl)]
  delta ReflectliteValue.set
  rw [two_args]
  simp [Sem.run_bind, h1, h2, Result.andThen, ReflectliteValue.flagAddr, hl, hda, hs, World.setCells]

/-- The variable errors.errorType as the program laid it. -/
def GOk (w : World) : Prop := w.cell? ⟨0, 0, none⟩ = some (.iface 96 (.agg #[.pointer (some ⟨1, 62, none⟩)]))
theorem GOk.kept {w w' : World} (h : GOk w) (hb : Below w.heap.size w w') : GOk w' := cell_step h hb

theorem as_nil (v : Value) (w : World) : Calls Tryd.prog 32 #[.nilIface, v] w fun e w' => e = .returned (.bool false) ∧ w = w' := by
  go_enter Tryd.func32, Tryd.ntmps32
  go_wp2_with fail
  go_ret
  exact ⟨rfl, rfl⟩

set_option maxRecDepth 20000 in
theorem as47 (cd x : Int) (p a : Nat) (v : Value) (w : World) (hp : w.heap[p]? = some (.cells #[.int .i64 x] 66)) (ha : w.heap[a]? = some (.cells #[.pointer (some ⟨p, 0, none⟩)] 68)) : Calls Tryd.prog 47 #[.iface 66 (.agg #[.int .i64 cd]), v, .agg #[.pointer (some ⟨1, 68, none⟩), .pointer (some ⟨a, 0, none⟩), .int .u64 150], .iface 96 (.agg #[.pointer (some ⟨1, 66, none⟩)])] w fun e w' => e = .returned (.bool true) ∧ OnlyD p w w' ∧ w'.heap[p]? = some (.cells #[.int .i64 cd] 66) := by
  have h1 := fun W => typeOf66 (.agg #[.int .i64 cd]) W
  have h2 := fun W => mAssign66 W
  have h3 := fun W => cAssign66 W
  have h4 := fun W => valueOf66 cd W
  have hpl : p < w.heap.size := (Array.getElem?_eq_some_iff.1 hp).1
  have hal : a < w.heap.size := (Array.getElem?_eq_some_iff.1 ha).1
  have hB := below_al w (.cells #[.pointer (some ⟨1, 68, none⟩), .pointer (some ⟨a, 0, none⟩), .int .u64 150] 80)
  have hsz : (w.alloc (.cells #[.pointer (some ⟨1, 68, none⟩), .pointer (some ⟨a, 0, none⟩), .int .u64 150] 80)).heap.size = w.heap.size + 1 := by simp
  have h5 := vElem68 ⟨a, 0, none⟩ ⟨p, 0, none⟩ _ (one_cell ((hB.block a hal).trans ha)).1
  have k1 := (hB.block p hpl).trans hp
  have hB2 := below_al (w.alloc (.cells #[.pointer (some ⟨1, 68, none⟩), .pointer (some ⟨a, 0, none⟩), .int .u64 150] 80)) (.cells #[.int .i64 cd] 66)
  have k2 := (hB2.block p (by omega)).trans k1
  have k3 := heap_alloc_new (w.alloc (.cells #[.pointer (some ⟨1, 68, none⟩), .pointer (some ⟨a, 0, none⟩), .int .u64 150] 80)) (.cells #[.int .i64 cd] 66)
  have h6 := set66 p _ cd x _ k2 k3
  rw [hsz] at h6
  have g0 := grown_set w p 0 (.int .i64 cd)
  have hB3 := below_al (w.setCell ⟨p, 0, none⟩ (.int .i64 cd)) (.cells #[.pointer (some ⟨1, 68, none⟩), .pointer (some ⟨a, 0, none⟩), .int .u64 150] 80)
  have hB4 := hB3.trans ((below_al _ (.cells #[.int .i64 cd] 66)).mono hB3.size)
  have HK := Lib.hid ((hB4.block p (by simpa using hpl)).trans (heap_setCell_same w p 0 _ 66 (.int .i64 cd) hp))
  have hend := Lib.hid (grown_trans g0 (grown_of_below hB4 (some p)))
  clear g0 hB3 hB4
  clear hp ha k1 k2 k3 hB hB2
  go_enter Tryd.func47, Tryd.ntmps47
  go_wp2_with fail
  go_loopw [0] (fun e wr => e = .iface 66 (.agg #[.int .i64 cd]) ∧ wr = w.alloc (.cells #[.pointer (some ⟨1, 68, none⟩), .pointer (some ⟨a, 0, none⟩), .int .u64 150] 80)) (fun _ _ => 0)
  case atStart => exact ⟨rfl, rfl⟩
  case round =>
    obtain ⟨rfl, rfl⟩ := hrel
    go_wp2_with fail
    go_ret
    exact ⟨rfl, hend.out, HK.out⟩

/-- What stands when errors.As has made its two variables. -/
def asW (p : Nat) (w : World) : World := (w.alloc (.cells #[.pointer (some ⟨p, 0, none⟩)] 68)).alloc (.cells #[.pointer (some ⟨1, 68, none⟩), .pointer (some ⟨w.heap.size, 0, none⟩), .int .u64 150] 80)

set_option maxRecDepth 20000 in
theorem as_some (cd x : Int) (p : Nat) (w : World) (hG : GOk w) (hp : w.heap[p]? = some (.cells #[.int .i64 x] 66)) : Calls Tryd.prog 32 #[.iface 66 (.agg #[.int .i64 cd]), .iface 68 (.pointer (some ⟨p, 0, none⟩))] w fun e w' => e = .returned (.bool true) ∧ OnlyD p w w' ∧ w'.heap[p]? = some (.cells #[.int .i64 cd] 66) := by
  have hpl : p < w.heap.size := (Array.getElem?_eq_some_iff.1 hp).1
  obtain ⟨k1, k2, hB⟩ := two_al w (.cells #[.pointer (some ⟨p, 0, none⟩)] 68) (.cells #[.pointer (some ⟨1, 68, none⟩), .pointer (some ⟨w.heap.size, 0, none⟩), .int .u64 150] 80)
  have hGw := hG.kept hB
  unfold GOk at hGw
  have hc := as47 cd x p w.heap.size (.iface 68 (.pointer (some ⟨p, 0, none⟩))) (asW p w) ((hB.block p hpl).trans hp) k2
  have h8 := isNil68 ⟨w.heap.size, 0, none⟩ ⟨p, 0, none⟩ (asW p w) (one_cell k2).1
  have HB := Lib.hid hB
  unfold asW at hc h8
  clear hp hG k1 k2 hB
  have h1 := fun W => valueOf68 p W
  have h2 := fun a W => valueType68 a W
  have h3 := fun W => mKind68 W
  have h4 := fun W => cKind68 W
  have h5 := fun W => mElem68 W
  have h6 := fun W => cElem68 W
  have h7 := fun W => mKind66 W
  have h9 := fun W => cKind66 W
  have h10 := fun W => mImpl66 W
  have h11 := fun W => cImpl66 W
  go_enter Tryd.func32, Tryd.ntmps32
  go_wp2_with (go_at_call 47; go_must (refine hc.mono ?_); rintro e w' ⟨rfl, hg, hk⟩)
  go_ret
  exact ⟨rfl, grown_trans (grown_of_below HB.out _) hg, hk⟩
end Go.Proofs.YtcohgkiloaapcaaDoor

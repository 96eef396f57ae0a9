/- Laws of package reflectlite's entries at the types of errors.As's call. -/
import Derived.Test.YtcohgkiloaapcaaDoorD2
import Derived.Laws.Externs
import Derived.Deep.MidRow
import Derived.Lib.ReflectliteSlice
namespace Go.Proofs.YtcohgkiloaapcaaDoor
open Go.RowKit Go.Extern Go.Extern.Rtype

theorem valueOf68 (p : Nat) (w : World) : (callFunc 44 #[.iface 68 (.pointer (some ⟨p, 0, none⟩))]).run Tryd.prog w = .ok (.value (.agg #[.pointer (some ⟨1, 68, none⟩), .pointer (some ⟨w.heap.size, 0, none⟩), .int .u64 150])) (w.alloc (.cells #[.pointer (some ⟨p, 0, none⟩)] 68)) := by
  kernel_rfl
theorem valueOf66 (cd : Int) (w : World) : (callFunc 44 #[.iface 66 (.agg #[.int .i64 cd])]).run Tryd.prog w = .ok (.value (.agg #[.pointer (some ⟨1, 66, none⟩), .pointer (some ⟨w.heap.size, 0, none⟩), .int .u64 153])) (w.alloc (.cells #[.int .i64 cd] 66)) := by
  kernel_rfl
theorem valueType68 (a : Addr) (w : World) : (callFunc 45 #[.agg #[.pointer (some ⟨1, 68, none⟩), .pointer (some a), .int .u64 150]]).run Tryd.prog w = .ok (.value (.iface 96 (.agg #[.pointer (some ⟨1, 68, none⟩)]))) w := by
  kernel_rfl
theorem mKind68 (w : World) : (method 257 96 (.agg #[.pointer (some ⟨1, 68, none⟩)]) "Kind").run Tryd.prog w = .ok (87, .pointer (some ⟨1, 68, none⟩)) w := by kernel_rfl
theorem mKind66 (w : World) : (method 257 96 (.agg #[.pointer (some ⟨1, 66, none⟩)]) "Kind").run Tryd.prog w = .ok (87, .pointer (some ⟨1, 66, none⟩)) w := by kernel_rfl
theorem mElem68 (w : World) : (method 257 96 (.agg #[.pointer (some ⟨1, 68, none⟩)]) "Elem").run Tryd.prog w = .ok (98, .agg #[.pointer (some ⟨1, 68, none⟩)]) w := by kernel_rfl
theorem mImpl66 (w : World) : (method 257 96 (.agg #[.pointer (some ⟨1, 66, none⟩)]) "Implements").run Tryd.prog w = .ok (99, .agg #[.pointer (some ⟨1, 66, none⟩)]) w := by kernel_rfl
theorem mAssign66 (w : World) : (method 257 96 (.agg #[.pointer (some ⟨1, 66, none⟩)]) "AssignableTo").run Tryd.prog w = .ok (96, .agg #[.pointer (some ⟨1, 66, none⟩)]) w := by kernel_rfl
theorem cKind68 (w : World) : (callFunc 87 #[.pointer (some ⟨1, 68, none⟩)]).run Tryd.prog w = .ok (.value (.int .u8 22)) w := by kernel_rfl
theorem cKind66 (w : World) : (callFunc 87 #[.pointer (some ⟨1, 66, none⟩)]).run Tryd.prog w = .ok (.value (.int .u8 25)) w := by kernel_rfl
theorem cElem68 (w : World) : (callFunc 98 #[.agg #[.pointer (some ⟨1, 68, none⟩)]]).run Tryd.prog w = .ok (.value (.iface 96 (.agg #[.pointer (some ⟨1, 66, none⟩)]))) w := by kernel_rfl
theorem cImpl66 (w : World) : (callFunc 99 #[.agg #[.pointer (some ⟨1, 66, none⟩)], .iface 96 (.agg #[.pointer (some ⟨1, 62, none⟩)])]).run Tryd.prog w = .ok (.value (.bool true)) w := by kernel_rfl
theorem cAssign66 (w : World) : (callFunc 96 #[.agg #[.pointer (some ⟨1, 66, none⟩)], .iface 96 (.agg #[.pointer (some ⟨1, 66, none⟩)])]).run Tryd.prog w = .ok (.value (.bool true)) w := by kernel_rfl
theorem typeOf66 (v : Value) (w : World) : (callFunc 57 #[.iface 66 v]).run Tryd.prog w = .ok (.value (.iface 96 (.agg #[.pointer (some ⟨1, 66, none⟩)]))) w := by kernel_rfl

theorem parts68 (a : Addr) (w : World) : (ReflectliteValue.parts (.agg #[.pointer (some ⟨1, 68, none⟩), .pointer (some a), .int .u64 150])).run Tryd.prog w = .ok (some (68, a, 150)) w := by kernel_rfl
theorem load68 (a : Addr) (v : Value) (w : World) (h : w.cell? a = some v) : (loadVar 68 a).run Tryd.prog w = .ok v w := by
  have hu : Tryd.prog.underlying 68 = some (.pointer 66) := by kernel_rfl
  simp [loadVar, isAgg, underlying, hu, h, Result.andThen]
theorem isNil68 (a q : Addr) (w : World) (h : w.cell? a = some (.pointer (some q))) : (callFunc 46 #[.agg #[.pointer (some ⟨1, 68, none⟩), .pointer (some a), .int .u64 150]]).run Tryd.prog w = .ok (.value (.bool false)) w := by
  rw [run_callFunc_extern (e := ReflectliteValue.method (ReflectliteValue.valueError "reflectlite.Value.IsNil" 0) ReflectliteValue.isNil) Tryd.func46 (by kernel_rfl) (by kernel_rfl) (by kernel_rfl) (by kernel_rfl), Lib.rl_method]
  simp [Sem.run_bind, parts68, Result.andThen, ReflectliteValue.isNil, load68 a _ w h]
theorem vElem68 (a q : Addr) (w : World) (h : w.cell? a = some (.pointer (some q))) : (callFunc 58 #[.agg #[.pointer (some ⟨1, 68, none⟩), .pointer (some a), .int .u64 150]]).run Tryd.prog w = .ok (.value (.agg #[.pointer (some ⟨1, 66, none⟩), .pointer (some q), .int .u64 409])) w := by
  have he : (elem? 68).run Tryd.prog w = .ok (some 66) w := by kernel_rfl
  have hm : (ReflectliteValue.mk 66 q ReflectliteValue.flagAddr).run Tryd.prog w = .ok (.agg #[.pointer (some ⟨1, 66, none⟩), .pointer (some q), .int .u64 409]) w := by kernel_rfl
  rw [run_callFunc_extern (e := ReflectliteValue.method (ReflectliteValue.valueError "reflectlite.Value.Elem" 0) ReflectliteValue.elem) Tryd.func58 (by kernel_rfl) (by kernel_rfl) (by kernel_rfl) (by kernel_rfl), Lib.rl_method]
  simp [Sem.run_bind, parts68, Result.andThen, ReflectliteValue.elem, load68 a _ w h, he, hm]
end Go.Proofs.YtcohgkiloaapcaaDoor

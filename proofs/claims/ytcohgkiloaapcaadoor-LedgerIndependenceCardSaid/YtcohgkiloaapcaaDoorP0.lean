/- The law LedgerRoundTrip, walked. -/
import Derived.Test.YtcohgkiloaapcaaDoorK2
namespace Go.Proofs.YtcohgkiloaapcaaDoor
open Go.RowKit

/-- What a law's call leaves. -/
def LawQ (w : World) (e : Ending) (w' : World) : Prop := e = .returned (.bool true) ∧ Below w.heap.size w w'
/-- Entries that came in. -/
structure EsIn (w : World) (A : Option Addr) (n c : Nat) (xs : List Rec) : Prop where
  es : Es w A n c xs
  bn : n ≤ 140737488355328
  bk : ∀ x, x ∈ xs → x.E.key.length ≤ 140737488355328 ∧ x.m ≤ 140737488355328
theorem EsIn.below {w w' : World} {A : Option Addr} {n c : Nat} {xs : List Rec} (h : EsIn w A n c xs) (hb : Below w.heap.size w w') : EsIn w' A n c xs := ⟨h.es.below hb, h.bn, h.bk⟩
theorem made_in (A : Option Addr) (n c b : Nat) (xs : List Rec) (w : World) (h : EsIn w A n c xs) (hb : b ≤ 1000) : Calls Tryd.prog 12 #[.slice A n c, .int .i64 b] w (MadeQ w n b) := made A n c b xs w h.es h.bn hb h.bk
theorem goods_ve {w : World} {ys : List Rec} (h : Goods w ys) : ∀ y, y ∈ ys → VE y.E := fun y hy => (h y hy).1
theorem ves_of {ys : List Rec} (h : ∀ y, y ∈ ys → VE y.E) : VEs (ys.map (·.E)) := fun e he => by
  obtain ⟨y, hy, rfl⟩ := List.mem_map.1 he
  exact h y hy
theorem ve_of_map {ys : List Rec} {es : List En} (h : ys.map (·.E) = es) (he : VEs es) : ∀ y, y ∈ ys → VE y.E := fun y hy => he _ (by rw [← h]; exact List.mem_map.2 ⟨y, hy, rfl⟩)
theorem log_le {ys : List Rec} {m b : Nat} (h : ∀ y, y ∈ ys → VE y.E) (hm : ys.length = m) (hb : m ≤ b) : (logB (ys.map (·.E))).length ≤ b * 21008 := by
  have h1 := logB_len (ves_of h)
  rw [List.length_map] at h1
  exact Nat.le_trans h1 (Nat.mul_le_mul_right _ (by omega))
theorem es_nil (w : World) : Bs w none 0 0 [] := Bs.nil _ _ _ (by decide)

set_option maxRecDepth 20000 in
set_option maxHeartbeats 2000000 in
theorem law_RoundTrip (A : Option Addr) (n c : Nat) (xs : List Rec) (w : World) (hE : EsIn w A n c xs) (hG : GOk w) : Calls Tryd.prog 4 #[.slice A n c] w (LawQ w) := by
  have h11 := sanity_ok w hG
  go_enter Tryd.func4, Tryd.ntmps4
  go_wp2_with fail
  refine h11.mono ?_
  clear h11
  rintro e w1 ⟨rfl, hB⟩
  have h12 := made_in A n c 10 xs w1 (hE.below hB) (by decide)
  go_wp2_with fail
  refine h12.mono ?_
  clear h12
  rintro e w2 ⟨A1, m, c1, ys, rfl, hE2, -, -, hm, hgd, hB2⟩
  have hB := below_then hB hB2
  have hve := goods_ve hgd
  have hml := hE2.len
  have hlb := log_le hve hml hm
  clear hgd hB2 hE
  have h24 := build_ok none 0 0 [] A1 m c1 ys w2 (es_nil _) hE2 hve (by omega) _ (List.nil_append _).symm (by omega)
  have Hml := Lib.hid hml
  clear hml
  go_wp2_with fail
  refine h24.mono ?_
  clear h24
  rintro e w3 ⟨A3, n3, c3, rfl, hn3, hb3, hB3⟩
  have hB := below_then hB hB3
  have hE2 := hE2.below hB3
  have hG3 := hG.kept hB
  have hsc := scan_log_only _ (ves_of hve)
  rw [hn3.out] at hsc
  have hn3b : n3 ≤ 210080 := by have := hn3.out; omega
  have h16 := scan_at A3 n3 c3 _ w3 hb3 (by omega) hG3 _ _ _ m n3 0 hsc rfl rfl (by rw [List.length_map, Hml.out])
  clear hB3 hsc
  go_wp2_with fail
  refine h16.mono ?_
  clear h16
  rintro e w4 ⟨A4, c4, ys4, rfl, hy4, hE4, -, hB4⟩
  have hB := below_then hB hB4
  have hE2 := hE2.below hB4
  have hb3 := hb3.below hB4
  have hve4 := ve_of_map hy4.out (ves_of hve)
  have h24 := build_ok none 0 0 [] A4 m c4 ys4 w4 (es_nil _) hE4 hve4 (by omega) (logB (ys.map (·.E))) (by rw [hy4.out]; exact (List.nil_append _).symm) (by omega)
  clear hB4
  go_wp2_with fail
  refine h24.mono ?_
  clear h24
  rintro e w5 ⟨A5, n5, c5, rfl, hn5, hb5, hB5⟩
  have hB := below_then hB hB5
  have hE2 := hE2.below hB5
  have hE4 := hE4.below hB5
  have hb3 := hb3.below hB5
  have hn5b : n5 ≤ 210080 := by have := hn5.out; omega
  have h19 := same19 A4 A1 m m c4 c1 ys4 ys w5 hE4 hE2 (by omega) true (by simp [hy4.out])
  clear hB5
  go_wp2_with (first | (go_at_call 19; refine h19.mono ?_; clear h19; rintro e w6 ⟨rfl, hB6⟩; have h18 := sameBytes A5 A3 n5 n3 c5 c3 _ _ w6 (hb5.below hB6) (hb3.below hB6) (by omega) true (decide_eq_true rfl).symm) | (go_at_call 18; refine h18.mono ?_; clear h18; rintro e w7 ⟨rfl, hB7⟩))
  go_ret
  exact ⟨rfl, below_then (below_then hB hB6) hB7⟩
end Go.Proofs.YtcohgkiloaapcaaDoor

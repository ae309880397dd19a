/- The drawing function of the law on proved roots. No condition: contracts for the walks of the laws. -/
import Derived.Test.YtpecffijmamddaaFlow5
import Derived.Test.YtpecffijmamddaaDrawS
namespace Go.Proofs.Ytpecffijmamddaa
open Go.ChangeShapes Go.WideShapes Go.ChangeAt Go.RowKit


theorem Rds.behind {w0 w w' : World} {g N : Nat} (h : Rds w0 w g N) (hb : Below w.heap.size w w') : Rds w0 w' g N :=
  h.grown (grownBy_below (World.grownBy.refl w none) hb) (by intro k hk; cases hk)
theorem isRow_below {k : IntKind} {w w' : World} {a : Option Addr} {len cap : Nat} {zs : List Int} (h : IsRow k w a len cap zs) (hb : Below w.heap.size w w') : IsRow k w' a len cap zs := by
  rcases h with h | ⟨x, h1, h2, h3, h4, h5, h6, h7⟩
  · exact .inl h
  · refine .inr ⟨x, h1, h2, h3, h4, fun i hi => ?_, h6, fun h => Nat.lt_of_lt_of_le (h7 h) hb.size⟩
    have hx := h7 (by omega)
    rw [hb.cell (by unfold Addr.add; split <;> simpa using hx)]
    exact h5 i hi
theorem list_cell {w : World} {g k : Nat} {t : TypeId} {l : List Value} {u : Value} (h : Blk w g t l.toArray) (hv : l[k]? = some u) : w.cell? ⟨g, k, none⟩ = some u := (h.cell k).trans (by rw [List.getElem?_toArray]; exact hv)
theorem four_at {x : Int} (h0 : 0 ≤ x) (h1 : x < 4) : ∃ v : Int, -1 ≤ v ∧ v ≤ 1 ∧ ([Value.int .i64 0, Value.int .i64 0, Value.int .i64 1, Value.int .i64 (-1)] : List Value)[x.toNat]? = some (.int .i64 v) := by
  rcases (by omega : x = 0 ∨ x = 1 ∨ x = 2 ∨ x = 3) with rfl | rfl | rfl | rfl
  · exact ⟨0, by omega, by omega, rfl⟩
  · exact ⟨0, by omega, by omega, rfl⟩
  · exact ⟨1, by omega, by omega, rfl⟩
  · exact ⟨-1, by omega, by omega, rfl⟩
set_option maxHeartbeats 4000000 in
theorem drawsqrtright_any {w : World} {a : Option Addr} {len cap : Nat} {zs : List Int} (hrow : IsRow .u8 w a len cap zs) :
    Calls Try.prog 25 #[.slice a len cap] w (TwoPost (-1152921504606846976) 1152921504606846977 (-2) 1073741825 w) := by
  go_enter Try.func25, Try.ntmps25
  go_wp2_with fail
  refine (open_base (Below.refl _ w) hrow).mono ?_
  rintro e w1 ⟨rfl, R0, hb1⟩
  have hZ := isRow_below hrow hb1
  go_wp2_with fail
  refine (drawsqrtfloor_any hZ).mono ?_
  rintro e w2 ⟨n, n0, n1, rfl, hb2⟩
  have R1 := R0.behind hb2
  have hgl := R1.lt
  have RR := Lib.hid R1
  clear R0 R1 hb1 hb2 hrow hZ
  go_wp2_with fail
  go_region_with (first | (go_at_call 23; refine (sqrt_spec _ _).mono ?_; rintro e w' ⟨⟨s, rfl, hs⟩, rfl⟩; obtain ⟨s0, s1⟩ := hs.bd; clear hs) | (go_at_call 39; (with_reducible refine Calls.mono (pick_any (w0 := w) (N := 0) (n := 4) ?_ ?_ ?_ ?_) ?_); (repeat (first | (with_reducible exact RR.out) | (with_reducible refine Rds.drew ?_) | (with_reducible refine Rds.alloc ?_ _))); omega; omega; omega; rintro e w3 ⟨x, x0, x1, rfl, R2, G2⟩; obtain ⟨v, v0, v1, hv⟩ := four_at x0 x1; obtain ⟨hh, hv2⟩ := List.getElem?_eq_some_iff.1 hv; have HR2 := Lib.hid R2; (first | (refine (fun (bz : Blk w3 w2.heap.size 3 #[.int .i64 0, .int .i64 0, .int .i64 1, .int .i64 (-1)]) => ?_) (Blk.grown ?_ G2 ?_); rotate_left; (focus ((repeat (first | (with_reducible refine Blk.drew ?_) | (with_reducible exact Blk.new _ _ _) | ((with_reducible refine Blk.newAt ?_) <;> first | rfl | (simp; done) | omega) | (with_reducible refine Blk.alloc ?_ _))); done)); (focus (intro e; injection e with e; omega)); have cu : w3.cell? ⟨w2.heap.size, x.toNat, none⟩ = some (.int .i64 v) := list_cell (l := [.int .i64 0, .int .i64 0, .int .i64 1, .int .i64 (-1)]) bz hv; clear bz) | skip); clear R2 G2 hv))
  all_goals
    go_wp2_with fail
    refine bodyPost_ret (v := .tuple #[.int .i64 n, .int .i64 (s + v)]) (by simp [results, Try.results25, go_sem]; exact IntWalk.i64_in _ (by omega)) rfl ?_
    exact ⟨n, s + v, n0, n1, by omega, by omega, rfl, by have hb := HR2.out.below; have := hb.size; go_grown⟩

end Go.Proofs.Ytpecffijmamddaa

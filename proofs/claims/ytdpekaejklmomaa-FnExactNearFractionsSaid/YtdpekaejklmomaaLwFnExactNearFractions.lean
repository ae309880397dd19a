/- The program's NearFractions returns what the reference's returns, for all arguments. No condition. -/
import Derived.Test.YtdpekaejklmomaaNrI
import Derived.Test.YtdpekaejklmomaaNrL
namespace Go.Proofs.Ytdpekaejklmomaa
open Go.ChangeShapes Go.WideShapes Go.ChangeAt Go.RowKit

attribute [local go_sem] alloc_drewN' setCell_drewN'

set_option maxHeartbeats 400000 in
theorem tofr_any (a b : Int) (w : World) : Calls Try.prog 27 #[.agg #[.int .i64 a, .int .i64 b]] w fun e w' => e = .returned (.agg #[.int .i64 a, .int .i64 b]) ∧ (((w.alloc (.cells #[.int .i64 a, .int .i64 b] 38)).alloc (.cells #[.int .i64 a, .int .i64 b] 41)).alloc (.cells #[.int .i64 a, .int .i64 b] 41)) = w' := by
  go_enter Try.func27, Try.ntmps27
  go_wp2
  go_returns
  exact ⟨rfl, rfl⟩
theorem ne2 {w w' : World} {b1 b2 n m : Nat} {v u : Value} {xs ys : List Int} (h : Row2 w b1 v n xs) (h' : Row2 w' b2 u m ys) (hb : w.heap.size ≤ b2) : v.ownBlock = none ∨ v.ownBlock ≠ u.ownBlock := by
  cases ho : v.ownBlock with
  | none => exact .inl rfl
  | some k =>
    right
    have h1 := (World.ownsRow.lt h k ho).2
    intro e
    have h2 := (World.ownsRow.lt h' k e.symm).1
    omega
set_option maxRecDepth 100000 in
set_option maxHeartbeats 16000000 in
theorem fnExactNearFractions.walk (a b : Int) (_ : (Lit.int .i64 a).wf = true) (_ : (Lit.int .i64 b).wf = true) (w : World) :
    Calls Try.prog 11 #[.agg #[.int .i64 a, .int .i64 b]] w fun e w' => e = .returned (.bool true) ∧ Below w.heap.size w w' := by
  have hle := chain_le a b
  have CI := Lib.hid (near_impl a b)
  have CS := Lib.hid (near_spec a b)
  generalize nrL (frChain a b) (frChain a b).length = zs at *
  generalize (frChain a b).length = n at *
  have HB := Lib.hid (Below.refl w.heap.size w)
  have BA := Lib.hid (Blk.new w 38 #[.int .i64 a, .int .i64 b])
  go_enter Try.func11, Try.ntmps11
  go_wp2_with (first | (go_at_call 27; refine (tofr_any _ _ _).mono ?_; rintro e w' ⟨rfl, rfl⟩))
  refine (CS.out _).mono ?_
  rintro e w1 ⟨u, rfl, ru, hb⟩
  have RU := Lib.hid (ru.lower (b := w.heap.size + 1) (by simp <;> omega))
  clear ru
  have hw := bl_behind (w := w) hb (by have hb0 := HB.out; repeat (first | (with_reducible exact hb0) | (with_reducible exact Below.refl _ _) | (with_reducible refine below_drewN ?_ _) | (with_reducible refine Below.drew ?_) | (with_reducible refine bl_alloc ?_ _))); have ba := Blk.below (g := w.heap.size) (t := 38) (cs := #[.int .i64 a, .int .i64 b]) (by repeat (first | (with_reducible exact BA.out) | (with_reducible refine Blk.drewN ?_ _) | (with_reducible refine Blk.drew ?_) | (with_reducible refine Blk.alloc ?_ _))) hb (by first | (have := BA.out.lt; first | omega | (simp; omega))); have BA := Lib.hid ba; have HB := Lib.hid hw; obtain ⟨c0, c1, -, -, l0⟩ := blk2 ba; clear hb ba hw
  go_wp2_with (first | (go_at_call 27; refine (tofr_any _ _ _).mono ?_; rintro e w' ⟨rfl, rfl⟩))
  refine (CI.out _).mono ?_
  rintro e w2 ⟨v, rfl, rv, hb⟩
  have hne := ne2 RU.out rv (by simp <;> omega)
  have hsz := HB.out.size
  have RV := Lib.hid (rv.lower (b := w.heap.size + 1) (by simp <;> omega))
  clear rv
  have hw := bl_behind (w := w) hb (by have hb0 := HB.out; repeat (first | (with_reducible exact hb0) | (with_reducible exact Below.refl _ _) | (with_reducible refine below_drewN ?_ _) | (with_reducible refine Below.drew ?_) | (with_reducible refine bl_alloc ?_ _))); have ba := Blk.below (g := w.heap.size) (t := 38) (cs := #[.int .i64 a, .int .i64 b]) (by repeat (first | (with_reducible exact BA.out) | (with_reducible refine Blk.drewN ?_ _) | (with_reducible refine Blk.drew ?_) | (with_reducible refine Blk.alloc ?_ _))) hb (by first | (have := BA.out.lt; first | omega | (simp; omega))); have rU := Row2.below (base := w.heap.size + 1) (n := n) (v := u) (zs := zs) (by repeat (first | (with_reducible exact RU.out) | (with_reducible refine Row2.drewN ?_ _) | (with_reducible refine Row2.alloc ?_ _))) hb; have RU := Lib.hid rU; clear rU; have BA := Lib.hid ba; have HB := Lib.hid hw; obtain ⟨c0, c1, -, -, l0⟩ := blk2 ba; clear hb ba hw
  have HNE := Lib.hid hne
  clear hne hsz
  go_wp2_with fail
  refine (eqfr_any RV.out RU.out).mono ?_
  rintro e w3 ⟨rfl, hb⟩
  have hw := bl_behind (w := w) hb (by have hb0 := HB.out; repeat (first | (with_reducible exact hb0) | (with_reducible exact Below.refl _ _) | (with_reducible refine below_drewN ?_ _) | (with_reducible refine Below.drew ?_) | (with_reducible refine bl_alloc ?_ _))); have ba := Blk.below (g := w.heap.size) (t := 38) (cs := #[.int .i64 a, .int .i64 b]) (by repeat (first | (with_reducible exact BA.out) | (with_reducible refine Blk.drewN ?_ _) | (with_reducible refine Blk.drew ?_) | (with_reducible refine Blk.alloc ?_ _))) hb (by first | (have := BA.out.lt; first | omega | (simp; omega))); have rU := Row2.below (base := w.heap.size + 1) (n := n) (v := u) (zs := zs) (by repeat (first | (with_reducible exact RU.out) | (with_reducible refine Row2.drewN ?_ _) | (with_reducible refine Row2.alloc ?_ _))) hb; have RU := Lib.hid rU; clear rU; have rV := Row2.below (base := w.heap.size + 1) (n := n) (v := v) (zs := zs) (by repeat (first | (with_reducible exact RV.out) | (with_reducible refine Row2.drewN ?_ _) | (with_reducible refine Row2.alloc ?_ _))) hb; have RV := Lib.hid rV; clear rV; have BA := Lib.hid ba; have HB := Lib.hid hw; obtain ⟨c0, c1, -, -, l0⟩ := blk2 ba; clear hb ba hw
  go_wp2_with fail
  refine (markfr_any RV.out 1 (by omega) (by omega) (by omega)).mono ?_
  rintro e w4 ⟨rfl, rv, hg⟩
  have hvb : ∀ k, v.ownBlock = some k → w.heap.size + 1 ≤ k := fun k hk => (World.ownsRow.lt RV.out k hk).1
  have hw0 := HB.out
  have hw := hw0.grown hg hw0.size (fun k hk => by have := hvb k hk; omega)
  have ba := BA.out.grown hg (by intro e; have := hvb _ e.symm; omega)
  have ru := Row2.kept RU.out hg HNE.out
  clear c0 c1 l0 HB BA RU RV hw0 hg hvb
  obtain ⟨c0, c1, -, -, l0⟩ := blk2 ba
  have BA := Lib.hid ba
  have HB := Lib.hid hw
  have RU := Lib.hid ru
  have RV := Lib.hid rv
  clear ba hw ru rv
  go_wp2_with (first | (go_at_call 40; refine (heldfr_any RV.out (by omega) (by omega) (by omega)).mono ?_; rintro e w' ⟨rfl, rfl⟩) | (go_at_call 27; refine (tofr_any _ _ _).mono ?_; rintro e w' ⟨rfl, rfl⟩))
  refine (CI.out _).mono ?_
  rintro e w5 ⟨z, rfl, rz, hb⟩
  have hsz := HB.out.size
  have RZ := Lib.hid (rz.lower (b := w.heap.size + 1) (by simp <;> omega))
  clear rz hsz
  have hw := bl_behind (w := w) hb (by have hb0 := HB.out; repeat (first | (with_reducible exact hb0) | (with_reducible exact Below.refl _ _) | (with_reducible refine below_drewN ?_ _) | (with_reducible refine Below.drew ?_) | (with_reducible refine bl_alloc ?_ _))); have ba := Blk.below (g := w.heap.size) (t := 38) (cs := #[.int .i64 a, .int .i64 b]) (by repeat (first | (with_reducible exact BA.out) | (with_reducible refine Blk.drewN ?_ _) | (with_reducible refine Blk.drew ?_) | (with_reducible refine Blk.alloc ?_ _))) hb (by first | (have := BA.out.lt; first | omega | (simp; omega))); have rU := Row2.below (base := w.heap.size + 1) (n := n) (v := u) (zs := zs) (by repeat (first | (with_reducible exact RU.out) | (with_reducible refine Row2.drewN ?_ _) | (with_reducible refine Row2.alloc ?_ _))) hb; have RU := Lib.hid rU; clear rU; have rV := Row2.below (base := w.heap.size + 1) (n := n) (v := v) (zs := (marks 1 (n * 2))) (by repeat (first | (with_reducible exact RV.out) | (with_reducible refine Row2.drewN ?_ _) | (with_reducible refine Row2.alloc ?_ _))) hb; have RV := Lib.hid rV; clear rV; have BA := Lib.hid ba; have HB := Lib.hid hw; obtain ⟨c0, c1, -, -, l0⟩ := blk2 ba; clear hb ba hw
  go_wp2_with fail
  refine (eqfr_any RZ.out RU.out).mono ?_
  rintro e w6 ⟨rfl, hb⟩
  have hw := bl_behind (w := w) hb (by have hb0 := HB.out; repeat (first | (with_reducible exact hb0) | (with_reducible exact Below.refl _ _) | (with_reducible refine below_drewN ?_ _) | (with_reducible refine Below.drew ?_) | (with_reducible refine bl_alloc ?_ _))); have ba := Blk.below (g := w.heap.size) (t := 38) (cs := #[.int .i64 a, .int .i64 b]) (by repeat (first | (with_reducible exact BA.out) | (with_reducible refine Blk.drewN ?_ _) | (with_reducible refine Blk.drew ?_) | (with_reducible refine Blk.alloc ?_ _))) hb (by first | (have := BA.out.lt; first | omega | (simp; omega))); have rV := Row2.below (base := w.heap.size + 1) (n := n) (v := v) (zs := (marks 1 (n * 2))) (by repeat (first | (with_reducible exact RV.out) | (with_reducible refine Row2.drewN ?_ _) | (with_reducible refine Row2.alloc ?_ _))) hb; have RV := Lib.hid rV; clear rV; have BA := Lib.hid ba; have HB := Lib.hid hw; obtain ⟨c0, c1, -, -, l0⟩ := blk2 ba; clear hb ba hw
  go_wp2_with (first | (go_at_call 40; refine (heldfr_any RV.out (by omega) (by omega) (by omega)).mono ?_; rintro e w' ⟨rfl, rfl⟩))
  go_ret
  have hb := HB.out
  exact ⟨rfl, (by repeat' (first | (with_reducible exact Below.refl _ _) | (with_reducible assumption) | (with_reducible refine below_drewN ?_ _) | (with_reducible refine Below.drew ?_) | (with_reducible refine bl_alloc ?_ _) | (with_reducible refine bl_set ?_ ?_ _) | go_size | omega))⟩

/-! THE ROW's STEP of FnExactNearFractions: from the contract of the law's walk to the given statement. -/
namespace fnExactNearFractions
set_option maxRecDepth 100000 in
theorem lifted (os : Os) (started : os.Started) (H : Type) (enc : TypeId × Value → H) :
    ReturnsInHanded {} Try.checked os 11 .any (Rows.fnExactNearFractionsSpec.pre6 enc Try.prog Try.f11 Rows.fnExactNearFractionsRow.domain false) (Rows.fnExactNearFractionsSpec.post enc Try.prog Try.f11 false true false false) := by
  refine returnsInHanded_of_change (C := Try.checked) own started (by kernel_rfl) Try.func11
    (ChangeSpec.witness6 (enc := enc) (C := Try.checked) false ⟨#[], #[.agg #[.int .i64 0, .int .i64 0]], []⟩ 8 (by kernel_rfl) (by kernel_rfl) (by kernel_rfl) (by kernel_rfl)) ?_
  intro W base args ds gs before hval0 hW hcnd _
  have hval : ∀ (j : Nat) t v, Try.f11.params[j]? = some t → args[j]? = some v → Value.okWide Try.prog W .any base t v := hval0
  have hW' := hW
  obtain ⟨p, q, hA0, hV, rfl, hfz, hnd⟩ := hW
  have hA : DataW.TrodAll enc Try.prog W 0 (fun _ => true) true Try.f11.params.toList args.toList ds p := hA0
  rw [Try.params11] at hA hval
  obtain ⟨v0, vs0, d0, ds0, p0, q0, hargs, rfl, rfl, h0, r0⟩ := trodAll_cons hA
  obtain ⟨rfl, rfl, rfl⟩ := trodAll_nil r0
  obtain rfl : args = #[v0] := by cases args; simp_all
  obtain ⟨rfl, rfl⟩ := trodVars_none hV
  have k0 := h0
  have lt0 : ∀ x ∈ p0, x.block < W.heap.size := by obtain ⟨m, hm⟩ := k0; exact DataW.trod_lt m _ _ _ hm
  obtain ⟨c0_0, c0_1, y0_0, y0_1, m0, rfl, -, -, hy0_0, hy0_1⟩ := Go.Joins.open_agg2 Try.underlying38 (by kernel_rfl) (by kernel_rfl) (hval 0 38 v0 rfl rfl) h0
  obtain ⟨a0_0, e0_0, -, w0_0⟩ := DataW.trod_int Try.underlying3 hy0_0
  simp only [List.cons.injEq, and_true] at e0_0
  subst e0_0
  obtain ⟨a0_1, e0_1, -, w0_1⟩ := DataW.trod_int Try.underlying3 hy0_1
  simp only [List.cons.injEq, and_true] at e0_1
  subst e0_1
  clear hA0 hval0
  refine (walk a0_0 a0_1 w0_0 w0_1 W).mono fun e W' ⟨he, bel⟩ => ?_
  subst he
  exact ⟨_, rfl, _, _, _, [], _, [], hW', trodAll_mk1 (shut_bool Try.underlying4 _), (trodAll_cons_mk (Below.trod laidOut (by kernel_rfl) (of_decide_eq_true (by kernel_rfl)) k0 bel lt0) trodAll_mk0), rfl, bel.frame _, fun h => by cases h⟩
end fnExactNearFractions

theorem fnExactNearFractions_holds : Rows.FnExactNearFractionsSaid :=
  OpenClaim.holds_of_wide 11 Try.f11 rfl rfl rfl rfl rfl rfl rfl ⟨rfl, rfl, rfl, rfl, rfl⟩ rfl rfl rfl rfl rfl (by kernel_rfl) Try.func11 (by kernel_rfl)
    (of_decide_eq_true (by kernel_rfl)) (by unfold Func.isWrapper; first | (rw [if_pos (by decide +kernel)]; kernel_rfl) | (rw [if_neg (by decide +kernel)]; exact ⟨rfl, rfl⟩))
    (fun os started H enc _ => fnExactNearFractions.lifted os started H enc)
#print axioms fnExactNearFractions_holds

end Go.Proofs.Ytdpekaejklmomaa

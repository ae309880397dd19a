/- The program's CalculatorValid returns what the reference's returns, for all arguments. No condition. -/
import Derived.Test.YtldhmlohkhmaaaaCalv
namespace Go.Proofs.Ytldhmlohkhmaaaa
open Go.ChangeShapes Go.WideShapes Go.ChangeAt Go.RowKit

set_option maxHeartbeats 1000000 in
theorem tocal_any (a b c : Int) (x : Bool) (w : World) : Calls Try.prog 6 #[.agg #[.int .i64 a, .int .i64 b, .int .i64 c, .bool x]] w fun e w' => e = .returned (.agg #[.int .i64 a, .int .i64 b, .int .i64 c, .bool x]) ∧ Below w.heap.size w w' := by
  go_enter Try.func6, Try.ntmps6
  go_wp2_with (first | go_in)
  refine bodyPost_ret (v := .agg #[.int .i64 a, .int .i64 b, .int .i64 c, .bool x]) (by simp [results, Try.results6, go_sem]) rfl ?_
  exact ⟨rfl, (by repeat' (first | (with_reducible exact Below.refl _ _) | (with_reducible assumption) | (with_reducible refine below_drewN ?_ _) | (with_reducible refine Below.drew ?_) | (with_reducible refine bl_alloc ?_ _) | (with_reducible refine bl_set ?_ ?_ _) | go_size | omega))⟩
set_option maxHeartbeats 1000000 in
theorem fnExactCalculatorValid.walk (a b c : Int) (x : Bool) (_ : (Lit.int .i64 a).wf = true) (_ : (Lit.int .i64 b).wf = true) (_ : (Lit.int .i64 c).wf = true) (w : World) :
    Calls Try.prog 3 #[.agg #[.int .i64 a, .int .i64 b, .int .i64 c, .bool x]] w fun e w' => e = .returned (.bool true) ∧ Below w.heap.size w w' := by
  have HB := Lib.hid (Below.refl w.heap.size w)
  go_enter Try.func3, Try.ntmps3
  go_wp2_with fail
  refine (tocal_any _ _ _ _ _).mono ?_
  rintro e w1 ⟨rfl, hb⟩
  (repeat (replace hb := undrew hb)); have bs := (Blk.new _ _ _).below hb (by simp); have Bs := Lib.hid bs; obtain ⟨ks0, ks1, ks2, ks3, -, -, -, -, ls⟩ := blk4 bs; clear bs; (repeat (replace hb := unalloc hb)); have HB := Lib.hid (HB.out.trans (hb.mono HB.out.size)); clear hb
  go_wp2_with fail
  refine (calv_spec _ _ _ _ _).mono ?_
  rintro e w2 ⟨rfl, hb⟩
  (repeat (replace hb := undrew hb)); (repeat (replace hb := unalloc hb)); have bs := Bs.out.below hb Bs.out.lt; obtain ⟨ks0, ks1, ks2, ks3, -, -, -, -, ls⟩ := blk4 bs; have Bs := Lib.hid bs; clear bs; have HB := Lib.hid (HB.out.trans (hb.mono HB.out.size)); clear hb
  go_wp2_with fail
  refine (tocal_any _ _ _ _ _).mono ?_
  rintro e w3 ⟨rfl, hb⟩
  (repeat (replace hb := undrew hb)); (repeat (replace hb := unalloc hb)); have bs := Bs.out.below hb Bs.out.lt; obtain ⟨ks0, ks1, ks2, ks3, -, -, -, -, ls⟩ := blk4 bs; have Bs := Lib.hid bs; clear bs; have HB := Lib.hid (HB.out.trans (hb.mono HB.out.size)); clear hb
  go_wp2_with fail
  refine (calv_impl _ _ _ _ _).mono ?_
  rintro e w4 ⟨rfl, hb⟩
  (repeat (replace hb := undrew hb)); (repeat (replace hb := unalloc hb)); have bs := Bs.out.below hb Bs.out.lt; obtain ⟨ks0, ks1, ks2, ks3, -, -, -, -, ls⟩ := blk4 bs; have Bs := Lib.hid bs; clear bs; have HB := Lib.hid (HB.out.trans (hb.mono HB.out.size)); clear hb
  go_wp2_with fail
  go_ret; have hb := HB.out; have := hb.size; exact ⟨ret_bool (by first | rfl | (simp; done) | (simp; omega)), (by repeat' (first | (with_reducible exact Below.refl _ _) | (with_reducible assumption) | (with_reducible refine below_drewN ?_ _) | (with_reducible refine Below.drew ?_) | (with_reducible refine bl_alloc ?_ _) | (with_reducible refine bl_set ?_ ?_ _) | go_size | omega))⟩

/-! THE ROW's STEP of FnExactCalculatorValid: from the contract of the law's walk to the given statement. -/
namespace fnExactCalculatorValid
set_option maxRecDepth 100000 in
theorem lifted (os : Os) (started : os.Started) (H : Type) (enc : TypeId × Value → H) :
    ReturnsInHanded {} Try.checked os 3 .any (Rows.fnExactCalculatorValidSpec.pre6 enc Try.prog Try.f3 Rows.fnExactCalculatorValidRow.domain false) (Rows.fnExactCalculatorValidSpec.post enc Try.prog Try.f3 false true false false) := by
  refine returnsInHanded_of_change (C := Try.checked) own started (by kernel_rfl) Try.func3
    (ChangeSpec.witness6 (enc := enc) (C := Try.checked) false ⟨#[], #[.agg #[.int .i64 0, .int .i64 0, .int .i64 0, .bool false]], []⟩ 8 (by kernel_rfl) (by kernel_rfl) (by kernel_rfl) (by kernel_rfl)) ?_
  intro W base args ds gs before hval0 hW hcnd _
  have hval : ∀ (j : Nat) t v, Try.f3.params[j]? = some t → args[j]? = some v → Value.okWide Try.prog W .any base t v := hval0
  have hW' := hW
  obtain ⟨p, q, hA0, hV, rfl, hfz, hnd⟩ := hW
  have hA : DataW.TrodAll enc Try.prog W 0 (fun _ => true) true Try.f3.params.toList args.toList ds p := hA0
  rw [Try.params3] at hA hval
  obtain ⟨v0, vs0, d0, ds0, p0, q0, hargs, rfl, rfl, h0, r0⟩ := trodAll_cons hA
  obtain ⟨rfl, rfl, rfl⟩ := trodAll_nil r0
  obtain rfl : args = #[v0] := by cases args; simp_all
  obtain ⟨rfl, rfl⟩ := trodVars_none hV
  have k0 := h0
  have lt0 : ∀ x ∈ p0, x.block < W.heap.size := by obtain ⟨m, hm⟩ := k0; exact DataW.trod_lt m _ _ _ hm
  obtain ⟨cs0, rfl, hsz0⟩ := okWide_struct Try.underlying25 (hval 0 25 v0 rfl rfl)
  obtain ⟨c0_0, c0_1, c0_2, c0_3, rfl⟩ := Go.Joins.array4 (hsz0.trans (by kernel_rfl))
  obtain ⟨fu0, hf0⟩ := h0
  obtain ⟨xs0, n0, -, -, -, hxl0, hx0⟩ := DataW.trod_struct Try.underlying25 hf0
  obtain ⟨z0, z1, z2, rfl⟩ : ∃ z0 z1 z2, xs0 = [z0, z1, z2] := by match xs0, hxl0 with | [z0, z1, z2], _ => exact ⟨z0, z1, z2, rfl⟩
  have e2 : Try.prog.cellsOf 23 = 2 := by kernel_rfl
  have e1 : Try.prog.cellsOf 3 = 1 := by kernel_rfl
  have e0 : Try.prog.cellsOf 4 = 1 := by kernel_rfl
  have g0 := hx0 0 _ rfl
  have g1 := hx0 1 _ rfl
  have g2 := hx0 2 _ rfl
  simp [e2, Value.cells] at g0
  simp [e1, Value.cells] at g1
  simp [e0, Value.cells] at g2
  obtain ⟨ys, m, -, -, -, hyl, hy⟩ := DataW.trod_struct Try.underlying23 g0
  obtain ⟨y0, y1, rfl⟩ : ∃ y0 y1, ys = [y0, y1] := by match ys, hyl with | [y0, y1], _ => exact ⟨y0, y1, rfl⟩
  have g3 := hy 0 _ rfl
  have g4 := hy 1 _ rfl
  simp [e1] at g3
  simp [e1] at g4
  obtain ⟨a0, ea, -, wa⟩ := DataW.trod_int Try.underlying3 g3
  obtain ⟨b0, eb, -, wb⟩ := DataW.trod_int Try.underlying3 g4
  obtain ⟨s0, es, -, ws⟩ := DataW.trod_int Try.underlying3 g1
  obtain ⟨x0, ex, -⟩ := DataW.trod_bool Try.underlying4 g2
  simp only [List.cons.injEq, and_true] at ea eb es ex
  subst ea; subst eb; subst es; subst ex
  clear hA0 hval0
  refine (walk a0 b0 s0 x0 wa wb ws W).mono fun e W' ⟨he, bel⟩ => ?_
  subst he
  exact ⟨_, rfl, _, _, _, [], _, [], hW', trodAll_mk1 (shut_bool Try.underlying4 _), (trodAll_cons_mk (Below.trod laidOut (by kernel_rfl) (of_decide_eq_true (by kernel_rfl)) k0 bel lt0) trodAll_mk0), rfl, bel.frame _, fun h => by cases h⟩
end fnExactCalculatorValid

theorem fnExactCalculatorValid_holds : Rows.FnExactCalculatorValidSaid :=
  OpenClaim.holds_of_wide 3 Try.f3 rfl rfl rfl rfl rfl rfl rfl ⟨rfl, rfl, rfl, rfl, rfl⟩ rfl rfl rfl rfl rfl (by kernel_rfl) Try.func3 (by kernel_rfl)
    (of_decide_eq_true (by kernel_rfl)) (by unfold Func.isWrapper; first | (rw [if_pos (by decide +kernel)]; kernel_rfl) | (rw [if_neg (by decide +kernel)]; exact ⟨rfl, rfl⟩))
    (fun os started H enc _ => fnExactCalculatorValid.lifted os started H enc)
#print axioms fnExactCalculatorValid_holds

end Go.Proofs.Ytldhmlohkhmaaaa

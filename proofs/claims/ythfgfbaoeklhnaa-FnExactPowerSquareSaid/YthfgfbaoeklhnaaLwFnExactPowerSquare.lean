/- The program's PowerSquare returns what the reference's returns, for all arguments. No condition. -/
import Derived.Test.YthfgfbaoeklhnaaSq
namespace Go.Proofs.Ythfgfbaoeklhnaa
open Go.ChangeShapes Go.WideShapes Go.ChangeAt Go.RowKit

set_option maxHeartbeats 1000000 in
theorem fnExactPowerSquare.walk (a b c d : Int) (_ : (Lit.int .i64 a).wf = true) (_ : (Lit.int .i64 b).wf = true) (_ : (Lit.int .i64 c).wf = true) (_ : (Lit.int .i64 d).wf = true) (e : Int) (he : (Lit.int .i64 e).wf = true) (w : World) :
    Calls Try.prog 12 #[.agg #[.int .i64 a, .int .i64 b, .int .i64 c, .int .i64 d], .int .i64 e] w fun e w' => e = .returned (.bool true) ∧ Below w.heap.size w w' := by
  have hb0 := i64_wf he
  go_enter Try.func12, Try.ntmps12
  go_wp2_with (go_at_call 18; go_in)
  refine (pow_spec _ _ _ _ _ _ hb0).mono ?_
  rintro e' w1 ⟨p, q, r, t, o, rfl, hst, hb⟩
  have HS := Lib.hid hst
  obtain ⟨c0, c1, c2, c3, -, -, -, -, m1⟩ := blk4 (((((Blk.new w _ _).alloc _).alloc _).alloc _).below hb (by simp; omega))
  have HB := Lib.hid (((((Below.refl _ w).alloc (Nat.le_refl _) _).alloc (by simp) _).alloc (by simp; omega) _).alloc (by simp; omega) _ |>.trans (hb.mono (by simp; omega)))
  clear hb hst
  go_wp2_with (go_at_call 18; go_in)
  refine (pow_impl _ _ _ _ _ _ hb0).mono ?_
  rintro e' w2 ⟨p2, q2, r2, t2, o2, rfl, hst, hb⟩
  have e12 := HS.out.symm.trans hst
  simp only [Prod.mk.injEq, Sq.mk.injEq] at e12
  obtain ⟨⟨rfl, rfl, rfl, rfl⟩, rfl⟩ := e12
  obtain ⟨c0, c1, c2, c3, -, -, -, -, m2⟩ := blk4 (((((Blk.new w1 _ _).alloc _).alloc _).alloc _).below hb (by simp; omega))
  (repeat (replace hb := unalloc hb))
  have HB2 := Lib.hid (HB.out.trans (hb.mono HB.out.size))
  clear hb hst HS
  cases o
  all_goals
    go_wp2_with (go_in)
    go_ret
    have hb := HB2.out
    have := hb.size
    exact ⟨rfl, by go_grown⟩

/-! THE ROW's STEP of FnExactPowerSquare: from the contract of the law's walk to the given statement. -/
namespace fnExactPowerSquare
set_option maxRecDepth 100000 in
theorem lifted (os : Os) (started : os.Started) (H : Type) (enc : TypeId × Value → H) :
    ReturnsInHanded {} Try.checked os 12 .any (Rows.fnExactPowerSquareSpec.pre6 enc Try.prog Try.f12 Rows.fnExactPowerSquareRow.domain false) (Rows.fnExactPowerSquareSpec.post enc Try.prog Try.f12 false true false false) := by
  refine returnsInHanded_of_change (C := Try.checked) own started (by kernel_rfl) Try.func12
    (ChangeSpec.witness6 (enc := enc) (C := Try.checked) false ⟨#[], #[.agg #[.int .i64 0, .int .i64 0, .int .i64 0, .int .i64 0], .int .i64 0], []⟩ 8 (by kernel_rfl) (by kernel_rfl) (by kernel_rfl) (by kernel_rfl)) ?_
  intro W base args ds gs before hval0 hW hcnd _
  have hval : ∀ (j : Nat) t v, Try.f12.params[j]? = some t → args[j]? = some v → Value.okWide Try.prog W .any base t v := hval0
  have hW' := hW
  obtain ⟨p, q, hA0, hV, rfl, hfz, hnd⟩ := hW
  have hA : DataW.TrodAll enc Try.prog W 0 (fun _ => true) true Try.f12.params.toList args.toList ds p := hA0
  rw [Try.params12] at hA hval
  obtain ⟨v0, vs0, d0, ds0, p0, q0, hargs, rfl, rfl, h0, r0⟩ := trodAll_cons hA
  obtain ⟨v1, vs1, d1, ds1, p1, q1, rfl, rfl, rfl, h1, r1⟩ := trodAll_cons r0
  obtain ⟨rfl, rfl, rfl⟩ := trodAll_nil r1
  obtain rfl : args = #[v0, v1] := by cases args; simp_all
  obtain ⟨rfl, rfl⟩ := trodVars_none hV
  have k0 := h0
  have lt0 : ∀ x ∈ p0, x.block < W.heap.size := by obtain ⟨m, hm⟩ := k0; exact DataW.trod_lt m _ _ _ hm
  obtain ⟨c0_0, c0_1, c0_2, c0_3, y0_0, y0_1, y0_2, y0_3, m0, rfl, -, -, hy0_0, hy0_1, hy0_2, hy0_3⟩ := Go.Joins.open_agg4 Try.underlying23 (by kernel_rfl) (by kernel_rfl) (hval 0 23 v0 rfl rfl) h0
  obtain ⟨a0_0, e0_0, -, w0_0⟩ := DataW.trod_int Try.underlying3 hy0_0
  simp only [List.cons.injEq, and_true] at e0_0
  subst e0_0
  obtain ⟨a0_1, e0_1, -, w0_1⟩ := DataW.trod_int Try.underlying3 hy0_1
  simp only [List.cons.injEq, and_true] at e0_1
  subst e0_1
  obtain ⟨a0_2, e0_2, -, w0_2⟩ := DataW.trod_int Try.underlying3 hy0_2
  simp only [List.cons.injEq, and_true] at e0_2
  subst e0_2
  obtain ⟨a0_3, e0_3, -, w0_3⟩ := DataW.trod_int Try.underlying3 hy0_3
  simp only [List.cons.injEq, and_true] at e0_3
  subst e0_3
  have k1 := h1
  have lt1 : ∀ x ∈ p1, x.block < W.heap.size := by obtain ⟨m, hm⟩ := k1; exact DataW.trod_lt m _ _ _ hm
  obtain ⟨a1, rfl, -, -, w1⟩ := open_int Try.underlying3 (hval 1 3 v1 rfl rfl) h1
  clear hA0 hval0
  refine (walk a0_0 a0_1 a0_2 a0_3 w0_0 w0_1 w0_2 w0_3 a1 w1 W).mono fun e W' ⟨he, bel⟩ => ?_
  subst he
  exact ⟨_, rfl, _, _, _, [], _, [], hW', trodAll_mk1 (shut_bool Try.underlying4 _), (trodAll_cons_mk (Below.trod laidOut (by kernel_rfl) (of_decide_eq_true (by kernel_rfl)) k0 bel lt0) (trodAll_cons_mk (Below.trod laidOut (by kernel_rfl) (of_decide_eq_true (by kernel_rfl)) k1 bel lt1) trodAll_mk0)), rfl, bel.frame _, fun h => by cases h⟩
end fnExactPowerSquare

theorem fnExactPowerSquare_holds : Rows.FnExactPowerSquareSaid :=
  OpenClaim.holds_of_wide 12 Try.f12 rfl rfl rfl rfl rfl rfl rfl ⟨rfl, rfl, rfl, rfl, rfl⟩ rfl rfl rfl rfl rfl (by kernel_rfl) Try.func12 (by kernel_rfl)
    (of_decide_eq_true (by kernel_rfl)) (by unfold Func.isWrapper; first | (rw [if_pos (by decide +kernel)]; kernel_rfl) | (rw [if_neg (by decide +kernel)]; exact ⟨rfl, rfl⟩))
    (fun os started H enc _ => fnExactPowerSquare.lifted os started H enc)
#print axioms fnExactPowerSquare_holds

end Go.Proofs.Ythfgfbaoeklhnaa

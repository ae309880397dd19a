/- Curves stay between: at both ends it is the number there, and it is never outside of all three; a curve by one number alone is that number. No condition. -/
import Derived.Test.YthfgfbaoeklhnaaDrawE
import Derived.Test.YthfgfbaoeklhnaaEaseP
import Derived.Test.YthfgfbaoeklhnaaAlive
namespace Go.Proofs.Ythfgfbaoeklhnaa
open Go.ChangeShapes Go.WideShapes Go.ChangeAt Go.RowKit

set_option maxHeartbeats 4000000 in
theorem fnCurvePoint.walk (w : World) (a : Option Addr) (len cap : Nat) (zs : List Int) (hrow : IsRow .u8 w a len cap zs) :
    Calls Try.prog 15 #[.slice a len cap] w fun e w' => e = .returned (.bool true) ∧ Below w.heap.size w w' := by
  obtain ⟨hl1, hl2, -⟩ := code_of_row hrow
  have hm : (len : Int) ≤ 9223372036854775807 := by unfold maxLen at hl2; omega
  by_cases hbig : (1048576 : Int) < (len : Int)
  · clear hrow hl1 hl2
    go_enter Try.func15, Try.ntmps15
    go_wp2
    go_ret
    exact ⟨rfl, Below.refl _ _⟩
  · go_enter Try.func15, Try.ntmps15
    go_wp2_with fail
    refine (drawcurvepoint_any hrow).mono ?_
    rintro e w1 ⟨x, y, z, s, hx0, hx1, hy0, hy1, hz0, hz1, hs0, hs1, rfl, hb⟩
    have HB := Lib.hid hb
    clear hb hrow hl1 hl2
    by_cases hv : mixOk x y s ∧ mixOk y z s
    · have f1 := curve_facts hv.1 hv.2
      have f4 := curve_zero (a := x) (b := y) (c := z) (by unfold mixOk at hv ⊢; omega) (by unfold mixOk at hv ⊢; omega)
      have f5 := curve_full (a := x) (b := y) (c := z) (by unfold mixOk at hv ⊢; omega) (by unfold mixOk at hv ⊢; omega)
      have f6 := curve_same (b := y) (s := s) (by unfold mixOk at hv ⊢; omega)
      obtain ⟨⟨v1, v2, v3, v4, v5, v6⟩, -, -, v7, v8, -, -⟩ := hv
      have F1 := Lib.hid f1
      clear f1
      go_wp2_with (first | (go_at_call 30; refine (curve_impl _ _ _ _ _).mono ?_; rintro e w' ⟨rfl, rfl⟩) | (go_at_call 29; refine (curve_spec _ _ _ _ _).mono ?_; rintro e w' ⟨rfl, rfl⟩) | (go_at_call 32; refine (alive_any _).mono ?_; rintro e w' ⟨rfl, rfl⟩))
      all_goals (go_ret; have f1 := F1.out; exact ⟨ret_bool (by first | rfl | (exfalso; omega) | (simp; omega)), HB.out⟩)
    · have he := (curve_out hv).symm
      have hv' : s < 0 ∨ 1024 < s ∨ 1000000 < x ∨ 1000000 < y ∨ 1000000 < z := by unfold mixOk at hv; omega
      clear hv
      go_wp2_with (first | (go_at_call 30; refine (curve_impl _ _ _ _ _).mono ?_; rintro e w' ⟨rfl, rfl⟩) | (go_at_call 29; refine (curve_spec _ _ _ _ _).mono ?_; rintro e w' ⟨rfl, rfl⟩) | (go_at_call 32; refine (alive_any _).mono ?_; rintro e w' ⟨rfl, rfl⟩))
      all_goals (go_ret; exact ⟨ret_bool (by first | rfl | (exfalso; omega) | (simp; omega)), HB.out⟩)

/-! THE ROW's STEP of FnCurvePoint: from the contract of the law's walk to the given statement. -/
namespace fnCurvePoint
set_option maxRecDepth 100000 in
theorem lifted (os : Os) (started : os.Started) (H : Type) (enc : TypeId × Value → H) :
    ReturnsInHanded {} Try.checked os 15 .any (Rows.fnCurvePointSpec.pre6 enc Try.prog Try.f15 Rows.fnCurvePointRow.domain false) (Rows.fnCurvePointSpec.post enc Try.prog Try.f15 false true false false) := by
  refine returnsInHanded_of_change (C := Try.checked) own started (by kernel_rfl) Try.func15
    (ChangeSpec.witness6 (enc := enc) (C := Try.checked) false ⟨#[], #[.slice none 0 0], []⟩ 8 (by kernel_rfl) (by kernel_rfl) (by kernel_rfl) (by kernel_rfl)) ?_
  intro W base args ds gs before hval0 hW hcnd _
  have hval : ∀ (j : Nat) t v, Try.f15.params[j]? = some t → args[j]? = some v → Value.okWide Try.prog W .any base t v := hval0
  have hW' := hW
  obtain ⟨p, q, hA0, hV, rfl, hfz, hnd⟩ := hW
  have hA : DataW.TrodAll enc Try.prog W 0 (fun _ => true) true Try.f15.params.toList args.toList ds p := hA0
  rw [Try.params15] at hA hval
  obtain ⟨v0, vs0, d0, ds0, p0, q0, hargs, rfl, rfl, h0, r0⟩ := trodAll_cons hA
  obtain ⟨rfl, rfl, rfl⟩ := trodAll_nil r0
  obtain rfl : args = #[v0] := by cases args; simp_all
  obtain ⟨rfl, rfl⟩ := trodVars_none hV
  have k0 := h0
  have lt0 : ∀ x ∈ p0, x.block < W.heap.size := by obtain ⟨m, hm⟩ := k0; exact DataW.trod_lt m _ _ _ hm
  obtain ⟨a0, len0, cap0, rfl⟩ := okWide_slice Try.underlying39 (hval 0 39 v0 rfl rfl)
  obtain ⟨z0, w0⟩ : ∃ zs, IsRow .u8 W a0 len0 cap0 zs := by
    obtain ⟨fuel, hf⟩ := h0
    rcases open_ints Try.underlying39 Try.underlying5 (by kernel_rfl) hf with ⟨hcs, _⟩ | ⟨x, l, c, zs, hcs, _, hl, hm, hz, _, hcell, hwz⟩
    · simp [Value.cells] at hcs
      obtain ⟨rfl, rfl, rfl⟩ := hcs
      exact ⟨[], .inl ⟨rfl, rfl, rfl, rfl⟩⟩
    · simp [Value.cells] at hcs
      obtain ⟨rfl, rfl, rfl⟩ := hcs
      exact ⟨zs, .inr ⟨_, rfl, hl, hm, by simpa using hz, hcell, hwz, isRow_lt hcell⟩⟩
  clear hA0 hval0
  refine (walk W a0 len0 cap0 z0 w0).mono fun e W' ⟨he, bel⟩ => ?_
  subst he
  exact ⟨_, rfl, _, _, _, [], _, [], hW', trodAll_mk1 (shut_bool Try.underlying4 _), (trodAll_cons_mk (Below.trod laidOut (by kernel_rfl) (of_decide_eq_true (by kernel_rfl)) k0 bel lt0) trodAll_mk0), rfl, bel.frame _, fun h => by cases h⟩
end fnCurvePoint

theorem fnCurvePoint_holds : Rows.FnCurvePointSaid :=
  OpenClaim.holds_of_wide 15 Try.f15 rfl rfl rfl rfl rfl rfl rfl ⟨rfl, rfl, rfl, rfl, rfl⟩ rfl rfl rfl rfl rfl (by kernel_rfl) Try.func15 (by kernel_rfl)
    (of_decide_eq_true (by kernel_rfl)) (by unfold Func.isWrapper; first | (rw [if_pos (by decide +kernel)]; kernel_rfl) | (rw [if_neg (by decide +kernel)]; exact ⟨rfl, rfl⟩))
    (fun os started H enc _ => fnCurvePoint.lifted os started H enc)
#print axioms fnCurvePoint_holds

end Go.Proofs.Ythfgfbaoeklhnaa

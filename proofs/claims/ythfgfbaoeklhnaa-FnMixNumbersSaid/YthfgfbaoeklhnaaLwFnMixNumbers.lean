/- Mixed numbers are between: at both ends it is the number there, it is never outside, and mixed in the other direction it is the same, but for 1. No condition. -/
import Derived.Test.YthfgfbaoeklhnaaDrawE
import Derived.Test.YthfgfbaoeklhnaaEaseP
import Derived.Test.YthfgfbaoeklhnaaAlive
namespace Go.Proofs.Ythfgfbaoeklhnaa
open Go.ChangeShapes Go.WideShapes Go.ChangeAt Go.RowKit

set_option maxHeartbeats 4000000 in
theorem fnMixNumbers.walk (w : World) (a : Option Addr) (len cap : Nat) (zs : List Int) (hrow : IsRow .u8 w a len cap zs) :
    Calls Try.prog 14 #[.slice a len cap] w fun e w' => e = .returned (.bool true) ∧ Below w.heap.size w w' := by
  obtain ⟨hl1, hl2, -⟩ := code_of_row hrow
  have hm : (len : Int) ≤ 9223372036854775807 := by unfold maxLen at hl2; omega
  by_cases hbig : (1048576 : Int) < (len : Int)
  · clear hrow hl1 hl2
    go_enter Try.func14, Try.ntmps14
    go_wp2
    go_ret
    exact ⟨rfl, Below.refl _ _⟩
  · go_enter Try.func14, Try.ntmps14
    go_wp2_with fail
    refine (drawmixnumbers_any hrow).mono ?_
    rintro e w1 ⟨x, y, s, hx0, hx1, hy0, hy1, hs0, hs1, rfl, hb⟩
    have HB := Lib.hid hb
    clear hb hrow hl1 hl2
    by_cases hv : mixOk x y s
    · have f1 := mix_between hv
      obtain ⟨f2, f3⟩ := mix_back hv
      have f4 := mix_zero (a := x) (b := y) (by unfold mixOk at hv ⊢; omega)
      have f5 := mix_full (a := x) (b := y) (by unfold mixOk at hv ⊢; omega)
      have g1 := mix_between (show mixOk y x (1024 - s) by unfold mixOk at hv ⊢; omega)
      obtain ⟨v1, v2, v3, v4, v5, v6⟩ := hv
      have F1 := Lib.hid f1
      have G1 := Lib.hid g1
      have b1 : -1000000 ≤ mix x y s := by omega
      have b2 : mix x y s ≤ 1000000 := by omega
      have b3 : -1000000 ≤ mix y x (1024 - s) := by omega
      have b4 : mix y x (1024 - s) ≤ 1000000 := by omega
      clear f1 g1
      go_wp2_with (first | (go_at_call 25; refine (mix_impl _ _ _ _).mono ?_; rintro e w' ⟨rfl, rfl⟩) | (go_at_call 24; refine (mix_spec _ _ _ _).mono ?_; rintro e w' ⟨rfl, rfl⟩) | (go_at_call 32; refine (alive_any _).mono ?_; rintro e w' ⟨rfl, rfl⟩))
      all_goals (go_ret; have f1 := F1.out; have g1 := G1.out; exact ⟨ret_bool (by first | rfl | (exfalso; omega) | (simp; omega)), HB.out⟩)
    · have he := (mix_out hv).symm
      have hv' : s < 0 ∨ 1024 < s ∨ 1000000 < x ∨ 1000000 < y := by unfold mixOk at hv; omega
      clear hv
      go_wp2_with (first | (go_at_call 25; refine (mix_impl _ _ _ _).mono ?_; rintro e w' ⟨rfl, rfl⟩) | (go_at_call 24; refine (mix_spec _ _ _ _).mono ?_; rintro e w' ⟨rfl, rfl⟩) | (go_at_call 32; refine (alive_any _).mono ?_; rintro e w' ⟨rfl, rfl⟩))
      all_goals (go_ret; exact ⟨ret_bool (by first | rfl | (exfalso; omega) | (simp; omega)), HB.out⟩)

/-! THE ROW's STEP of FnMixNumbers: from the contract of the law's walk to the given statement. -/
namespace fnMixNumbers
set_option maxRecDepth 100000 in
theorem lifted (os : Os) (started : os.Started) (H : Type) (enc : TypeId × Value → H) :
    ReturnsInHanded {} Try.checked os 14 .any (Rows.fnMixNumbersSpec.pre6 enc Try.prog Try.f14 Rows.fnMixNumbersRow.domain false) (Rows.fnMixNumbersSpec.post enc Try.prog Try.f14 false true false false) := by
  refine returnsInHanded_of_change (C := Try.checked) own started (by kernel_rfl) Try.func14
    (ChangeSpec.witness6 (enc := enc) (C := Try.checked) false ⟨#[], #[.slice none 0 0], []⟩ 8 (by kernel_rfl) (by kernel_rfl) (by kernel_rfl) (by kernel_rfl)) ?_
  intro W base args ds gs before hval0 hW hcnd _
  have hval : ∀ (j : Nat) t v, Try.f14.params[j]? = some t → args[j]? = some v → Value.okWide Try.prog W .any base t v := hval0
  have hW' := hW
  obtain ⟨p, q, hA0, hV, rfl, hfz, hnd⟩ := hW
  have hA : DataW.TrodAll enc Try.prog W 0 (fun _ => true) true Try.f14.params.toList args.toList ds p := hA0
  rw [Try.params14] at hA hval
  obtain ⟨v0, vs0, d0, ds0, p0, q0, hargs, rfl, rfl, h0, r0⟩ := trodAll_cons hA
  obtain ⟨rfl, rfl, rfl⟩ := trodAll_nil r0
  obtain rfl : args = #[v0] := by cases args; simp_all
  obtain ⟨rfl, rfl⟩ := trodVars_none hV
  have k0 := h0
  have lt0 : ∀ x ∈ p0, x.block < W.heap.size := by obtain ⟨m, hm⟩ := k0; exact DataW.trod_lt m _ _ _ hm
  obtain ⟨a0, len0, cap0, rfl⟩ := okWide_slice Try.underlying39 (hval 0 39 v0 rfl rfl)
  obtain ⟨z0, w0⟩ : ∃ zs, IsRow .u8 W a0 len0 cap0 zs := by
    obtain ⟨fuel, hf⟩ := h0
    rcases open_ints Try.underlying39 Try.underlying5 (by kernel_rfl) hf with ⟨hcs, _⟩ | ⟨x, l, c, zs, hcs, _, hl, hm, hz, _, hcell, hwz⟩
    · simp [Value.cells] at hcs
      obtain ⟨rfl, rfl, rfl⟩ := hcs
      exact ⟨[], .inl ⟨rfl, rfl, rfl, rfl⟩⟩
    · simp [Value.cells] at hcs
      obtain ⟨rfl, rfl, rfl⟩ := hcs
      exact ⟨zs, .inr ⟨_, rfl, hl, hm, by simpa using hz, hcell, hwz, isRow_lt hcell⟩⟩
  clear hA0 hval0
  refine (walk W a0 len0 cap0 z0 w0).mono fun e W' ⟨he, bel⟩ => ?_
  subst he
  exact ⟨_, rfl, _, _, _, [], _, [], hW', trodAll_mk1 (shut_bool Try.underlying4 _), (trodAll_cons_mk (Below.trod laidOut (by kernel_rfl) (of_decide_eq_true (by kernel_rfl)) k0 bel lt0) trodAll_mk0), rfl, bel.frame _, fun h => by cases h⟩
end fnMixNumbers

theorem fnMixNumbers_holds : Rows.FnMixNumbersSaid :=
  OpenClaim.holds_of_wide 14 Try.f14 rfl rfl rfl rfl rfl rfl rfl ⟨rfl, rfl, rfl, rfl, rfl⟩ rfl rfl rfl rfl rfl (by kernel_rfl) Try.func14 (by kernel_rfl)
    (of_decide_eq_true (by kernel_rfl)) (by unfold Func.isWrapper; first | (rw [if_pos (by decide +kernel)]; kernel_rfl) | (rw [if_neg (by decide +kernel)]; exact ⟨rfl, rfl⟩))
    (fun os started H enc _ => fnMixNumbers.lifted os started H enc)
#print axioms fnMixNumbers_holds

end Go.Proofs.Ythfgfbaoeklhnaa

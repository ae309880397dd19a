/- Roots are proved: it holds exactly for the root that SqrtFloor returns. No condition. -/
import Derived.Test.YtpecffijmamddaaDrawS2
import Derived.Test.YtpecffijmamddaaSqr
namespace Go.Proofs.Ytpecffijmamddaa
open Go.ChangeShapes Go.WideShapes Go.ChangeAt Go.RowKit

set_option maxHeartbeats 4000000 in
theorem fnSqrtRight.walk (w : World) (a : Option Addr) (len cap : Nat) (zs : List Int) (hrow : IsRow .u8 w a len cap zs) :
    Calls Try.prog 8 #[.slice a len cap] w fun e w' => e = .returned (.bool true) ∧ Below w.heap.size w w' := by
  obtain ⟨hl1, hl2, -⟩ := code_of_row hrow
  have hm : (len : Int) ≤ 9223372036854775807 := by unfold maxLen at hl2; omega
  by_cases hbig : (1048576 : Int) < (len : Int)
  · clear hrow hl1 hl2
    go_enter Try.func8, Try.ntmps8
    go_wp2
    go_ret
    exact ⟨rfl, Below.refl _ _⟩
  · go_enter Try.func8, Try.ntmps8
    go_wp2_with fail
    refine (drawsqrtright_any hrow).mono ?_
    rintro e w1 ⟨n, r, n0, n1, r0, r1, rfl, hb⟩
    have HB := Lib.hid hb
    clear hb hrow hl1 hl2
    go_wp2_with fail
    refine (sqr_impl _ _ _ (by omega) (by omega) (by omega) (by omega)).mono ?_
    rintro e w2 ⟨rfl, rfl⟩
    go_wp2_with fail
    refine (sqr_spec _ _ _ (by omega) (by omega) (by omega) (by omega)).mono ?_
    rintro e w2 ⟨rfl, rfl⟩
    obtain ⟨o, ho⟩ : ∃ o, sqR n r = o := ⟨_, rfl⟩
    rw [ho]
    have HO := Lib.hid ho
    clear ho
    rcases (by omega : n < 0 ∨ (0 ≤ n ∧ 1152921504606846976 < n) ∨ (0 ≤ n ∧ n ≤ 1152921504606846976)) with h1 | ⟨h1, h2⟩ | ⟨h1, h2⟩
    case inr.inr =>
      go_wp2_with fail
      refine (sqrt_impl _ _ (by omega) (by omega)).mono ?_
      rintro e w2 ⟨⟨s, rfl, hs⟩, rfl⟩
      have hi := sqR_is (r := r) hs
      rw [HO.out] at hi
      clear hs HO
      by_cases hsr : s = r
      · have ho2 : o = true := hi.2 ⟨h1, h2, hsr⟩
        subst ho2
        subst hsr
        clear hi
        go_wp2_with (first | (go_at_call 14; refine (alive_any _).mono ?_; rintro e w' ⟨rfl, rfl⟩))
        all_goals (go_ret; exact ⟨ret_bool (by first | rfl | (simp; done) | (simp; omega)), HB.out⟩)
      · have ho2 : o = false := by
          cases o
          · rfl
          · exact absurd (hi.1 rfl).2.2 hsr
        subst ho2
        clear hi
        go_wp2_with (first | (go_at_call 14; refine (alive_any _).mono ?_; rintro e w' ⟨rfl, rfl⟩))
        all_goals (go_ret; exact ⟨ret_bool (by first | rfl | (simp; done) | (simp; omega)), HB.out⟩)
    all_goals
      have ho2 : o = false := by have := HO.out; rw [← this, ← sqR_out (by omega)]
      subst ho2
      go_wp2_with (first | (go_at_call 14; refine (alive_any _).mono ?_; rintro e w' ⟨rfl, rfl⟩))
      all_goals (go_ret; exact ⟨ret_bool (by first | rfl | (simp; done) | (simp; omega)), HB.out⟩)

/-! THE ROW's STEP of FnSqrtRight: from the contract of the law's walk to the given statement. -/
namespace fnSqrtRight
set_option maxRecDepth 100000 in
theorem lifted (os : Os) (started : os.Started) (H : Type) (enc : TypeId × Value → H) :
    ReturnsInHanded {} Try.checked os 8 .any (Rows.fnSqrtRightSpec.pre6 enc Try.prog Try.f8 Rows.fnSqrtRightRow.domain false) (Rows.fnSqrtRightSpec.post enc Try.prog Try.f8 false true false false) := by
  refine returnsInHanded_of_change (C := Try.checked) own started (by kernel_rfl) Try.func8
    (ChangeSpec.witness6 (enc := enc) (C := Try.checked) false ⟨#[], #[.slice none 0 0], []⟩ 8 (by kernel_rfl) (by kernel_rfl) (by kernel_rfl) (by kernel_rfl)) ?_
  intro W base args ds gs before hval0 hW hcnd _
  have hval : ∀ (j : Nat) t v, Try.f8.params[j]? = some t → args[j]? = some v → Value.okWide Try.prog W .any base t v := hval0
  have hW' := hW
  obtain ⟨p, q, hA0, hV, rfl, hfz, hnd⟩ := hW
  have hA : DataW.TrodAll enc Try.prog W 0 (fun _ => true) true Try.f8.params.toList args.toList ds p := hA0
  rw [Try.params8] at hA hval
  obtain ⟨v0, vs0, d0, ds0, p0, q0, hargs, rfl, rfl, h0, r0⟩ := trodAll_cons hA
  obtain ⟨rfl, rfl, rfl⟩ := trodAll_nil r0
  obtain rfl : args = #[v0] := by cases args; simp_all
  obtain ⟨rfl, rfl⟩ := trodVars_none hV
  have k0 := h0
  have lt0 : ∀ x ∈ p0, x.block < W.heap.size := by obtain ⟨m, hm⟩ := k0; exact DataW.trod_lt m _ _ _ hm
  obtain ⟨a0, len0, cap0, rfl⟩ := okWide_slice Try.underlying23 (hval 0 23 v0 rfl rfl)
  obtain ⟨z0, w0⟩ : ∃ zs, IsRow .u8 W a0 len0 cap0 zs := by
    obtain ⟨fuel, hf⟩ := h0
    rcases open_ints Try.underlying23 Try.underlying5 (by kernel_rfl) hf with ⟨hcs, _⟩ | ⟨x, l, c, zs, hcs, _, hl, hm, hz, _, hcell, hwz⟩
    · simp [Value.cells] at hcs
      obtain ⟨rfl, rfl, rfl⟩ := hcs
      exact ⟨[], .inl ⟨rfl, rfl, rfl, rfl⟩⟩
    · simp [Value.cells] at hcs
      obtain ⟨rfl, rfl, rfl⟩ := hcs
      exact ⟨zs, .inr ⟨_, rfl, hl, hm, by simpa using hz, hcell, hwz, isRow_lt hcell⟩⟩
  clear hA0 hval0
  refine (walk W a0 len0 cap0 z0 w0).mono fun e W' ⟨he, bel⟩ => ?_
  subst he
  exact ⟨_, rfl, _, _, _, [], _, [], hW', trodAll_mk1 (shut_bool Try.underlying4 _), (trodAll_cons_mk (Below.trod laidOut (by kernel_rfl) (of_decide_eq_true (by kernel_rfl)) k0 bel lt0) trodAll_mk0), rfl, bel.frame _, fun h => by cases h⟩
end fnSqrtRight

theorem fnSqrtRight_holds : Rows.FnSqrtRightSaid :=
  OpenClaim.holds_of_wide 8 Try.f8 rfl rfl rfl rfl rfl rfl rfl ⟨rfl, rfl, rfl, rfl, rfl⟩ rfl rfl rfl rfl rfl (by kernel_rfl) Try.func8 (by kernel_rfl)
    (of_decide_eq_true (by kernel_rfl)) (by unfold Func.isWrapper; first | (rw [if_pos (by decide +kernel)]; kernel_rfl) | (rw [if_neg (by decide +kernel)]; exact ⟨rfl, rfl⟩))
    (fun os started H enc _ => fnSqrtRight.lifted os started H enc)
#print axioms fnSqrtRight_holds

end Go.Proofs.Ytpecffijmamddaa

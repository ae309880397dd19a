/- Rounded quotients are proved: it holds exactly for the quotient that RoundDiv returns. No condition. -/
import Derived.Test.YtpecffijmamddaaDrawR2
import Derived.Test.YtpecffijmamddaaAlive
namespace Go.Proofs.Ytpecffijmamddaa
open Go.ChangeShapes Go.WideShapes Go.ChangeAt Go.RowKit

theorem rnd_in {a b : Int} (h1 : -1099511627776 ≤ a) (h2 : a ≤ 1099511627776) (hb : 1 ≤ b) : -1099511627776 ≤ rnd a b ∧ rnd a b ≤ 1099511627776 := by
  rcases (by omega : b = 1 ∨ 2 ≤ b) with rfl | hb2
  · unfold rnd
    rw [Int.ediv_one]
    split <;> omega
  · have e1 := ediv_abs (a := a) (b := b) (M := 1099511627776) hb h1 h2 (by omega)
    have d := ediv_bd (a := a) (show 0 < b by omega)
    have e2 : a / b ≤ 549755813888 := by
      rcases Int.lt_or_le (a / b) 0 with h | h
      · omega
      · have := Int.mul_le_mul_of_nonneg_left hb2 h; omega
    unfold rnd
    split <;> omega
set_option maxHeartbeats 4000000 in
theorem fnRoundRight.walk (w : World) (a : Option Addr) (len cap : Nat) (zs : List Int) (hrow : IsRow .u8 w a len cap zs) :
    Calls Try.prog 4 #[.slice a len cap] w fun e w' => e = .returned (.bool true) ∧ Below w.heap.size w w' := by
  obtain ⟨hl1, hl2, -⟩ := code_of_row hrow
  have hm : (len : Int) ≤ 9223372036854775807 := by unfold maxLen at hl2; omega
  by_cases hbig : (1048576 : Int) < (len : Int)
  · clear hrow hl1 hl2
    go_enter Try.func4, Try.ntmps4
    go_wp2
    go_ret
    exact ⟨rfl, Below.refl _ _⟩
  · go_enter Try.func4, Try.ntmps4
    go_wp2_with fail
    refine (drawroundright_any hrow).mono ?_
    rintro e w1 ⟨a, b, q, a0, a1, b0, b1, q0, q1, rfl, hb⟩
    have HB := Lib.hid hb
    clear hb hrow hl1 hl2
    by_cases hok : rrOk a b q
    · have hr := rr_rnd hok
      have hok' := hok
      obtain ⟨h1, h2, h3, h4, h5, h6⟩ := hok'
      obtain ⟨r1, r2⟩ := rnd_in h1 h2 h3
      have hr2 := rr_rnd (show rrOk a b (rnd a b) from ⟨h1, h2, h3, h4, r1, r2⟩)
      rw [decide_eq_true rfl] at hr2
      obtain ⟨o, ho⟩ : ∃ o, rrB a b q = o := ⟨_, rfl⟩
      rw [ho] at hr
      obtain ⟨z, hz⟩ : ∃ z, rnd a b = z := ⟨_, rfl⟩
      rw [hz] at hr hr2 r1 r2
      have HR := Lib.hid hr
      clear hr hok
      go_wp2_with (first | (go_at_call 12; refine (rr_impl _ _ _ _).mono ?_; rintro e w' ⟨rfl, rfl⟩) | (go_at_call 11; refine (rr_spec _ _ _ _).mono ?_; rintro e w' ⟨rfl, rfl⟩) | (go_at_call 15; refine (rounddiv_any _ _ _ (by omega) (by omega) (by omega) (by omega)).mono ?_; rintro e w' ⟨rfl, rfl⟩) | (go_at_call 14; refine (alive_any _).mono ?_; rintro e w' ⟨rfl, rfl⟩))
      all_goals (go_ret; have hr := HR.out; subst hr; exact ⟨ret_bool (by by_cases hzq : z = q <;> simp_all), HB.out⟩)
    · have hr := rr_out hok
      unfold rrOk at hok
      rcases (by omega : a < -1099511627776 ∨ (-1099511627776 ≤ a ∧ 1099511627776 < a) ∨ (-1099511627776 ≤ a ∧ a ≤ 1099511627776 ∧ b < 1) ∨ (-1099511627776 ≤ a ∧ a ≤ 1099511627776 ∧ 1 ≤ b ∧ 1099511627776 < b) ∨ (-1099511627776 ≤ a ∧ a ≤ 1099511627776 ∧ 1 ≤ b ∧ b ≤ 1099511627776 ∧ q < -1099511627776) ∨ (-1099511627776 ≤ a ∧ a ≤ 1099511627776 ∧ 1 ≤ b ∧ b ≤ 1099511627776 ∧ -1099511627776 ≤ q ∧ 1099511627776 < q)) with h1 | ⟨h1, h2⟩ | ⟨h1, h2, h3⟩ | ⟨h1, h2, h3, h4⟩ | ⟨h1, h2, h3, h4, h5⟩ | ⟨h1, h2, h3, h4, h5, h6⟩
      all_goals
        clear hok
        have hr' := hr.symm
        clear hr
        go_wp2_with (first | (go_at_call 12; refine (rr_impl _ _ _ _).mono ?_; rintro e w' ⟨rfl, rfl⟩) | (go_at_call 11; refine (rr_spec _ _ _ _).mono ?_; rintro e w' ⟨rfl, rfl⟩) | (go_at_call 14; refine (alive_any _).mono ?_; rintro e w' ⟨rfl, rfl⟩))
        all_goals (go_ret; exact ⟨ret_bool (by first | rfl | (simp; done) | simp_all), HB.out⟩)

/-! THE ROW's STEP of FnRoundRight: from the contract of the law's walk to the given statement. -/
namespace fnRoundRight
set_option maxRecDepth 100000 in
theorem lifted (os : Os) (started : os.Started) (H : Type) (enc : TypeId × Value → H) :
    ReturnsInHanded {} Try.checked os 4 .any (Rows.fnRoundRightSpec.pre6 enc Try.prog Try.f4 Rows.fnRoundRightRow.domain false) (Rows.fnRoundRightSpec.post enc Try.prog Try.f4 false true false false) := by
  refine returnsInHanded_of_change (C := Try.checked) own started (by kernel_rfl) Try.func4
    (ChangeSpec.witness6 (enc := enc) (C := Try.checked) false ⟨#[], #[.slice none 0 0], []⟩ 8 (by kernel_rfl) (by kernel_rfl) (by kernel_rfl) (by kernel_rfl)) ?_
  intro W base args ds gs before hval0 hW hcnd _
  have hval : ∀ (j : Nat) t v, Try.f4.params[j]? = some t → args[j]? = some v → Value.okWide Try.prog W .any base t v := hval0
  have hW' := hW
  obtain ⟨p, q, hA0, hV, rfl, hfz, hnd⟩ := hW
  have hA : DataW.TrodAll enc Try.prog W 0 (fun _ => true) true Try.f4.params.toList args.toList ds p := hA0
  rw [Try.params4] at hA hval
  obtain ⟨v0, vs0, d0, ds0, p0, q0, hargs, rfl, rfl, h0, r0⟩ := trodAll_cons hA
  obtain ⟨rfl, rfl, rfl⟩ := trodAll_nil r0
  obtain rfl : args = #[v0] := by cases args; simp_all
  obtain ⟨rfl, rfl⟩ := trodVars_none hV
  have k0 := h0
  have lt0 : ∀ x ∈ p0, x.block < W.heap.size := by obtain ⟨m, hm⟩ := k0; exact DataW.trod_lt m _ _ _ hm
  obtain ⟨a0, len0, cap0, rfl⟩ := okWide_slice Try.underlying23 (hval 0 23 v0 rfl rfl)
  obtain ⟨z0, w0⟩ : ∃ zs, IsRow .u8 W a0 len0 cap0 zs := by
    obtain ⟨fuel, hf⟩ := h0
    rcases open_ints Try.underlying23 Try.underlying5 (by kernel_rfl) hf with ⟨hcs, _⟩ | ⟨x, l, c, zs, hcs, _, hl, hm, hz, _, hcell, hwz⟩
    · simp [Value.cells] at hcs
      obtain ⟨rfl, rfl, rfl⟩ := hcs
      exact ⟨[], .inl ⟨rfl, rfl, rfl, rfl⟩⟩
    · simp [Value.cells] at hcs
      obtain ⟨rfl, rfl, rfl⟩ := hcs
      exact ⟨zs, .inr ⟨_, rfl, hl, hm, by simpa using hz, hcell, hwz, isRow_lt hcell⟩⟩
  clear hA0 hval0
  refine (walk W a0 len0 cap0 z0 w0).mono fun e W' ⟨he, bel⟩ => ?_
  subst he
  exact ⟨_, rfl, _, _, _, [], _, [], hW', trodAll_mk1 (shut_bool Try.underlying4 _), (trodAll_cons_mk (Below.trod laidOut (by kernel_rfl) (of_decide_eq_true (by kernel_rfl)) k0 bel lt0) trodAll_mk0), rfl, bel.frame _, fun h => by cases h⟩
end fnRoundRight

theorem fnRoundRight_holds : Rows.FnRoundRightSaid :=
  OpenClaim.holds_of_wide 4 Try.f4 rfl rfl rfl rfl rfl rfl rfl ⟨rfl, rfl, rfl, rfl, rfl⟩ rfl rfl rfl rfl rfl (by kernel_rfl) Try.func4 (by kernel_rfl)
    (of_decide_eq_true (by kernel_rfl)) (by unfold Func.isWrapper; first | (rw [if_pos (by decide +kernel)]; kernel_rfl) | (rw [if_neg (by decide +kernel)]; exact ⟨rfl, rfl⟩))
    (fun os started H enc _ => fnRoundRight.lifted os started H enc)
#print axioms fnRoundRight_holds

end Go.Proofs.Ytpecffijmamddaa

/- Powers are multiplied: the power of a sum of exponents is the product of both powers; the power with the exponent 1 is the rest. No condition. -/
import Derived.Test.YtdpekaejklmomaaDrawM
import Derived.Test.YtdpekaejklmomaaModP
import Derived.Test.YtdpekaejklmomaaAlive
namespace Go.Proofs.Ytdpekaejklmomaa
open Go.ChangeShapes Go.WideShapes Go.ChangeAt Go.RowKit

theorem mp_facts {a e m : Int} (h : mpOk a e m) : (0 ≤ modPow a e m ∧ modPow a e m < m) ∧ (0 ≤ modPow a (e / 2) m ∧ modPow a (e / 2) m < m) ∧ (0 ≤ modPow a (e - e / 2) m ∧ modPow a (e - e / 2) m < m) ∧
    modPow a (e / 2) m * modPow a (e - e / 2) m % m = modPow a e m ∧ modPow a 1 m = a % m := by
  have h' := h
  obtain ⟨h1, h2, h3, h4, h5, h6⟩ := h'
  rw [← modPow_in h, ← modPow_in (e := e / 2) (by unfold mpOk; omega), ← modPow_in (e := e - e / 2) (by unfold mpOk; omega), ← modPow_in (e := 1) (by unfold mpOk; omega)]
  refine ⟨emod_bd _ h5, emod_bd _ h5, emod_bd _ h5, ?_, by simp [Int.pow_succ]⟩
  rw [← Int.mul_emod, ← Int.pow_add]
  congr 2
  omega
set_option maxHeartbeats 4000000 in
theorem fnModPower.walk (w : World) (a : Option Addr) (len cap : Nat) (zs : List Int) (hrow : IsRow .u8 w a len cap zs) :
    Calls Try.prog 4 #[.slice a len cap] w fun e w' => e = .returned (.bool true) ∧ Below w.heap.size w w' := by
  obtain ⟨hl1, hl2, -⟩ := code_of_row hrow
  have hm : (len : Int) ≤ 9223372036854775807 := by unfold maxLen at hl2; omega
  by_cases hbig : (1048576 : Int) < (len : Int)
  · clear hrow hl1 hl2
    go_enter Try.func4, Try.ntmps4
    go_wp2
    go_ret
    exact ⟨rfl, Below.refl _ _⟩
  · go_enter Try.func4, Try.ntmps4
    go_wp2_with fail
    refine (drawmodpower_any hrow).mono ?_
    rintro e w1 ⟨a, e, m, a0, a1, e0, e1, m0, m1, rfl, hb⟩
    have HB := Lib.hid hb
    clear hb hrow hl1 hl2
    by_cases hok : mpOk a e m
    · obtain ⟨⟨n0, n1⟩, ⟨p0, p1⟩, ⟨q0, q1⟩, hpq, ho⟩ := mp_facts hok
      obtain ⟨h1, h2, h3, h4, h5, h6⟩ := hok
      have hb0 := Int.mul_nonneg p0 q0
      have hb1 := Int.mul_le_mul (show modPow a (e / 2) m ≤ 1000000 by omega) (show modPow a (e - e / 2) m ≤ 1000000 by omega) q0 (by omega)
      have hm0 : ¬ m = 0 := by omega
      go_wp2_with (first | (go_at_call 16; refine (modpow_impl _ _ _ _).mono ?_; rintro e w' ⟨rfl, mm, hww⟩; have hbb := below_drewN HB.out mm; rw [← hww] at hbb; have HB := Lib.hid hbb; clear hww hbb) | (go_at_call 15; refine (modpow_spec _ _ _ _).mono ?_; rintro e w' ⟨rfl, mm, hww⟩; have hbb := below_drewN HB.out mm; rw [← hww] at hbb; have HB := Lib.hid hbb; clear hww hbb) | (go_at_call 18; refine (alive_any _).mono ?_; rintro e w' ⟨rfl, rfl⟩))
      have hw1 : IntKind.i64.wrap (e - e / 2) = e - e / 2 := IntWalk.i64_in _ (by omega)
      have hw2 : IntKind.i64.wrap (modPow a (e / 2) m * modPow a (e - e / 2) m) = modPow a (e / 2) m * modPow a (e - e / 2) m := IntWalk.i64_in _ (by omega)
      have ht1 : (modPow a (e / 2) m * modPow a (e - e / 2) m).tmod m = modPow a e m := by rw [Int.tmod_eq_emod_of_nonneg hb0]; exact hpq
      have ht2 : a.tmod m = a % m := Int.tmod_eq_emod_of_nonneg h1
      have ht3 : IntKind.i64.wrap (a % m) = a % m := IntWalk.i64_in _ (by have := emod_bd a h5; omega)
      have ht4 : IntKind.i64.wrap (modPow a e m) = modPow a e m := IntWalk.i64_in _ (by omega)
      have hd : decide (modPow a e m < m) = true := by simpa using n1
      go_quiet ((go_at_call 16; exact Calls.quiet_of (modpow_impl _ _ _ _)))
      go_wp2_with fail
      all_goals (go_ret; have hb := HB.out; have := hb.size; exact ⟨ret_bool (by first | rfl | (simp; done) | (simp; omega)), (by repeat' (first | (with_reducible exact Below.refl _ _) | (with_reducible assumption) | (with_reducible refine below_drewN ?_ _) | (with_reducible refine Below.drew ?_) | (with_reducible refine bl_alloc ?_ _) | (with_reducible refine bl_set ?_ ?_ _) | go_size | omega))⟩)
    · have hg := modPow_out hok
      clear hok
      go_wp2_with (first | (go_at_call 16; refine (modpow_impl _ _ _ _).mono ?_; rintro e w' ⟨rfl, mm, rfl⟩) | (go_at_call 15; refine (modpow_spec _ _ _ _).mono ?_; rintro e w' ⟨rfl, mm, rfl⟩) | (go_at_call 18; refine (alive_any _).mono ?_; rintro e w' ⟨rfl, rfl⟩))
      all_goals (go_ret; have hb := HB.out; have := hb.size; exact ⟨ret_bool (by first | rfl | (simp; done) | (simp; omega)), (by repeat' (first | (with_reducible exact Below.refl _ _) | (with_reducible assumption) | (with_reducible refine below_drewN ?_ _) | (with_reducible refine Below.drew ?_) | (with_reducible refine bl_alloc ?_ _) | (with_reducible refine bl_set ?_ ?_ _) | go_size | omega))⟩)

/-! THE ROW's STEP of FnModPower: from the contract of the law's walk to the given statement. -/
namespace fnModPower
set_option maxRecDepth 100000 in
theorem lifted (os : Os) (started : os.Started) (H : Type) (enc : TypeId × Value → H) :
    ReturnsInHanded {} Try.checked os 4 .any (Rows.fnModPowerSpec.pre6 enc Try.prog Try.f4 Rows.fnModPowerRow.domain false) (Rows.fnModPowerSpec.post enc Try.prog Try.f4 false true false false) := by
  refine returnsInHanded_of_change (C := Try.checked) own started (by kernel_rfl) Try.func4
    (ChangeSpec.witness6 (enc := enc) (C := Try.checked) false ⟨#[], #[.slice none 0 0], []⟩ 8 (by kernel_rfl) (by kernel_rfl) (by kernel_rfl) (by kernel_rfl)) ?_
  intro W base args ds gs before hval0 hW hcnd _
  have hval : ∀ (j : Nat) t v, Try.f4.params[j]? = some t → args[j]? = some v → Value.okWide Try.prog W .any base t v := hval0
  have hW' := hW
  obtain ⟨p, q, hA0, hV, rfl, hfz, hnd⟩ := hW
  have hA : DataW.TrodAll enc Try.prog W 0 (fun _ => true) true Try.f4.params.toList args.toList ds p := hA0
  rw [Try.params4] at hA hval
  obtain ⟨v0, vs0, d0, ds0, p0, q0, hargs, rfl, rfl, h0, r0⟩ := trodAll_cons hA
  obtain ⟨rfl, rfl, rfl⟩ := trodAll_nil r0
  obtain rfl : args = #[v0] := by cases args; simp_all
  obtain ⟨rfl, rfl⟩ := trodVars_none hV
  have k0 := h0
  have lt0 : ∀ x ∈ p0, x.block < W.heap.size := by obtain ⟨m, hm⟩ := k0; exact DataW.trod_lt m _ _ _ hm
  obtain ⟨a0, len0, cap0, rfl⟩ := okWide_slice Try.underlying24 (hval 0 24 v0 rfl rfl)
  obtain ⟨z0, w0⟩ : ∃ zs, IsRow .u8 W a0 len0 cap0 zs := by
    obtain ⟨fuel, hf⟩ := h0
    rcases open_ints Try.underlying24 Try.underlying5 (by kernel_rfl) hf with ⟨hcs, _⟩ | ⟨x, l, c, zs, hcs, _, hl, hm, hz, _, hcell, hwz⟩
    · simp [Value.cells] at hcs
      obtain ⟨rfl, rfl, rfl⟩ := hcs
      exact ⟨[], .inl ⟨rfl, rfl, rfl, rfl⟩⟩
    · simp [Value.cells] at hcs
      obtain ⟨rfl, rfl, rfl⟩ := hcs
      exact ⟨zs, .inr ⟨_, rfl, hl, hm, by simpa using hz, hcell, hwz, isRow_lt hcell⟩⟩
  clear hA0 hval0
  refine (walk W a0 len0 cap0 z0 w0).mono fun e W' ⟨he, bel⟩ => ?_
  subst he
  exact ⟨_, rfl, _, _, _, [], _, [], hW', trodAll_mk1 (shut_bool Try.underlying4 _), (trodAll_cons_mk (Below.trod laidOut (by kernel_rfl) (of_decide_eq_true (by kernel_rfl)) k0 bel lt0) trodAll_mk0), rfl, bel.frame _, fun h => by cases h⟩
end fnModPower

theorem fnModPower_holds : Rows.FnModPowerSaid :=
  OpenClaim.holds_of_wide 4 Try.f4 rfl rfl rfl rfl rfl rfl rfl ⟨rfl, rfl, rfl, rfl, rfl⟩ rfl rfl rfl rfl rfl (by kernel_rfl) Try.func4 (by kernel_rfl)
    (of_decide_eq_true (by kernel_rfl)) (by unfold Func.isWrapper; first | (rw [if_pos (by decide +kernel)]; kernel_rfl) | (rw [if_neg (by decide +kernel)]; exact ⟨rfl, rfl⟩))
    (fun os started H enc _ => fnModPower.lifted os started H enc)
#print axioms fnModPower_holds

end Go.Proofs.Ytdpekaejklmomaa

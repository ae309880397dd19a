/- Inverses are inverses: the product is 1 modulo m; and there is none exactly if both have a common part. No condition. -/
import Derived.Test.YtdpekaejklmomaaDrawM
import Derived.Test.YtdpekaejklmomaaModI
import Derived.Test.YtdpekaejklmomaaAlive
namespace Go.Proofs.Ytdpekaejklmomaa
open Go.ChangeShapes Go.WideShapes Go.ChangeAt Go.RowKit

theorem inv_prod {a m x : Int} (hm : 2 ≤ m) (h : m ∣ x * a - 1) : a * x % m = 1 := by
  obtain ⟨k, hk⟩ := h
  have e : a * x = 1 + m * k := by rw [Int.mul_comm a x]; omega
  rw [e, Int.add_mul_emod_self_left, Int.emod_eq_of_lt (by omega) (by omega)]
set_option maxHeartbeats 4000000 in
theorem fnModInverse.walk (w : World) (a : Option Addr) (len cap : Nat) (zs : List Int) (hrow : IsRow .u8 w a len cap zs) :
    Calls Try.prog 6 #[.slice a len cap] w fun e w' => e = .returned (.bool true) ∧ Below w.heap.size w w' := by
  obtain ⟨hl1, hl2, -⟩ := code_of_row hrow
  have hm : (len : Int) ≤ 9223372036854775807 := by unfold maxLen at hl2; omega
  by_cases hbig : (1048576 : Int) < (len : Int)
  · clear hrow hl1 hl2
    go_enter Try.func6, Try.ntmps6
    go_wp2
    go_ret
    exact ⟨rfl, Below.refl _ _⟩
  · go_enter Try.func6, Try.ntmps6
    go_wp2_with fail
    refine (drawmodinverse_any hrow).mono ?_
    rintro e w1 ⟨a, m, a0, a1, m0, m1, rfl, hb⟩
    have HB := Lib.hid hb
    clear hb hrow hl1 hl2
    go_wp2_with fail
    refine (inv_impl _ _ _).mono ?_
    rintro e w2 ⟨⟨x, rfl, hx⟩, k1, rfl⟩
    have HX := Lib.hid hx
    clear hx
    go_wp2_with fail
    refine (inv_spec _ _ _).mono ?_
    rintro e w3 ⟨⟨y, rfl, hy⟩, k2, rfl⟩
    obtain rfl := InvIs.only HX.out hy
    clear hy
    rcases HX.out with ⟨h1, h2, h3, h4, h5, x0, x1, hx⟩ | ⟨hn, rfl⟩
    · have hp := inv_prod h3 hx
      have hg := gcdOf_in (a := a) (b := m) (by unfold gcdOk; omega)
      rw [h5] at hg
      have ax0 : 0 ≤ a * x := Int.mul_nonneg h1 x0
      have ax1 := Int.mul_le_mul h2 (show x ≤ 1000000 by omega) x0 (by omega)
      clear HX hx
      go_wp2_with (first | (go_at_call 22; refine (gcd_impl _ _ _).mono ?_; rintro e w' ⟨rfl, mm, rfl⟩) | (go_at_call 18; refine (alive_any _).mono ?_; rintro e w' ⟨rfl, rfl⟩))
      all_goals (go_ret; have hb := HB.out; have := hb.size; exact ⟨ret_bool (by first | rfl | (simp; done) | (simp; omega)), (by repeat' (first | (with_reducible exact Below.refl _ _) | (with_reducible assumption) | (with_reducible refine below_drewN ?_ _) | (with_reducible refine Below.drew ?_) | (with_reducible refine bl_alloc ?_ _) | (with_reducible refine bl_set ?_ ?_ _) | go_size | omega))⟩)
    · clear HX
      rcases (by omega : a < 0 ∨ (0 ≤ a ∧ m < 2) ∨ (0 ≤ a ∧ 2 ≤ m ∧ 1000000 < m) ∨ (0 ≤ a ∧ 2 ≤ m ∧ m ≤ 1000000)) with h1 | ⟨h1, h2⟩ | ⟨h1, h2, h3⟩ | ⟨h1, h2, h3⟩
      case inr.inr.inr =>
        have hg := gcdOf_in (a := a) (b := m) (by unfold gcdOk; omega)
        have hg' : gcdOf a m ≠ 1 := by omega
        have hgb : (gcdOf a m != 1) = true := by simpa using hg'
        clear hn hg
        go_wp2_with (first | (go_at_call 22; refine (gcd_impl _ _ _).mono ?_; rintro e w' ⟨rfl, mm, rfl⟩) | (go_at_call 18; refine (alive_any _).mono ?_; rintro e w' ⟨rfl, rfl⟩))
        all_goals (go_ret; have hb := HB.out; have := hb.size; exact ⟨ret_bool (by first | rfl | (simp; done) | (simp; omega)), (by repeat' (first | (with_reducible exact Below.refl _ _) | (with_reducible assumption) | (with_reducible refine below_drewN ?_ _) | (with_reducible refine Below.drew ?_) | (with_reducible refine bl_alloc ?_ _) | (with_reducible refine bl_set ?_ ?_ _) | go_size | omega))⟩)
      all_goals
        clear hn
        go_wp2_with (first | (go_at_call 22; refine (gcd_impl _ _ _).mono ?_; rintro e w' ⟨rfl, mm, rfl⟩) | (go_at_call 18; refine (alive_any _).mono ?_; rintro e w' ⟨rfl, rfl⟩))
        all_goals (go_ret; have hb := HB.out; have := hb.size; exact ⟨ret_bool (by first | rfl | (simp; done) | (simp; omega)), (by repeat' (first | (with_reducible exact Below.refl _ _) | (with_reducible assumption) | (with_reducible refine below_drewN ?_ _) | (with_reducible refine Below.drew ?_) | (with_reducible refine bl_alloc ?_ _) | (with_reducible refine bl_set ?_ ?_ _) | go_size | omega))⟩)

/-! THE ROW's STEP of FnModInverse: from the contract of the law's walk to the given statement. -/
namespace fnModInverse
set_option maxRecDepth 100000 in
theorem lifted (os : Os) (started : os.Started) (H : Type) (enc : TypeId × Value → H) :
    ReturnsInHanded {} Try.checked os 6 .any (Rows.fnModInverseSpec.pre6 enc Try.prog Try.f6 Rows.fnModInverseRow.domain false) (Rows.fnModInverseSpec.post enc Try.prog Try.f6 false true false false) := by
  refine returnsInHanded_of_change (C := Try.checked) own started (by kernel_rfl) Try.func6
    (ChangeSpec.witness6 (enc := enc) (C := Try.checked) false ⟨#[], #[.slice none 0 0], []⟩ 8 (by kernel_rfl) (by kernel_rfl) (by kernel_rfl) (by kernel_rfl)) ?_
  intro W base args ds gs before hval0 hW hcnd _
  have hval : ∀ (j : Nat) t v, Try.f6.params[j]? = some t → args[j]? = some v → Value.okWide Try.prog W .any base t v := hval0
  have hW' := hW
  obtain ⟨p, q, hA0, hV, rfl, hfz, hnd⟩ := hW
  have hA : DataW.TrodAll enc Try.prog W 0 (fun _ => true) true Try.f6.params.toList args.toList ds p := hA0
  rw [Try.params6] at hA hval
  obtain ⟨v0, vs0, d0, ds0, p0, q0, hargs, rfl, rfl, h0, r0⟩ := trodAll_cons hA
  obtain ⟨rfl, rfl, rfl⟩ := trodAll_nil r0
  obtain rfl : args = #[v0] := by cases args; simp_all
  obtain ⟨rfl, rfl⟩ := trodVars_none hV
  have k0 := h0
  have lt0 : ∀ x ∈ p0, x.block < W.heap.size := by obtain ⟨m, hm⟩ := k0; exact DataW.trod_lt m _ _ _ hm
  obtain ⟨a0, len0, cap0, rfl⟩ := okWide_slice Try.underlying24 (hval 0 24 v0 rfl rfl)
  obtain ⟨z0, w0⟩ : ∃ zs, IsRow .u8 W a0 len0 cap0 zs := by
    obtain ⟨fuel, hf⟩ := h0
    rcases open_ints Try.underlying24 Try.underlying5 (by kernel_rfl) hf with ⟨hcs, _⟩ | ⟨x, l, c, zs, hcs, _, hl, hm, hz, _, hcell, hwz⟩
    · simp [Value.cells] at hcs
      obtain ⟨rfl, rfl, rfl⟩ := hcs
      exact ⟨[], .inl ⟨rfl, rfl, rfl, rfl⟩⟩
    · simp [Value.cells] at hcs
      obtain ⟨rfl, rfl, rfl⟩ := hcs
      exact ⟨zs, .inr ⟨_, rfl, hl, hm, by simpa using hz, hcell, hwz, isRow_lt hcell⟩⟩
  clear hA0 hval0
  refine (walk W a0 len0 cap0 z0 w0).mono fun e W' ⟨he, bel⟩ => ?_
  subst he
  exact ⟨_, rfl, _, _, _, [], _, [], hW', trodAll_mk1 (shut_bool Try.underlying4 _), (trodAll_cons_mk (Below.trod laidOut (by kernel_rfl) (of_decide_eq_true (by kernel_rfl)) k0 bel lt0) trodAll_mk0), rfl, bel.frame _, fun h => by cases h⟩
end fnModInverse

theorem fnModInverse_holds : Rows.FnModInverseSaid :=
  OpenClaim.holds_of_wide 6 Try.f6 rfl rfl rfl rfl rfl rfl rfl ⟨rfl, rfl, rfl, rfl, rfl⟩ rfl rfl rfl rfl rfl (by kernel_rfl) Try.func6 (by kernel_rfl)
    (of_decide_eq_true (by kernel_rfl)) (by unfold Func.isWrapper; first | (rw [if_pos (by decide +kernel)]; kernel_rfl) | (rw [if_neg (by decide +kernel)]; exact ⟨rfl, rfl⟩))
    (fun os started H enc _ => fnModInverse.lifted os started H enc)
#print axioms fnModInverse_holds

end Go.Proofs.Ytdpekaejklmomaa

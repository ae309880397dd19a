/- Reduced fractions are equal: Top times the second number is Low times the first one; with both numbers doubled it is the same. No condition. -/
import Derived.Test.YtlcmpcjimmdcfaaDrawGR
import Derived.Test.YtlcmpcjimmdcfaaFracP
import Derived.Test.YtlcmpcjimmdcfaaAlive
namespace Go.Proofs.Ytlcmpcjimmdcfaa
open Go.ChangeShapes Go.WideShapes Go.ChangeAt Go.RowKit

theorem red_bad {t l p q : Int} (h : redF t l = ((p, q), false)) : p = 0 ∧ q = 0 := by
  unfold redF at h
  split at h
  · exact mkF_bad h
  · simp only [Prod.mk.injEq] at h; omega
theorem gcdOf_two {t l : Int} (h : gcdOk (2 * t) (2 * l)) : gcdOf (2 * t) (2 * l) = 2 * gcdOf t l := by
  rw [gcdOf_in h, gcdOf_in (by unfold gcdOk at *; omega), Int.gcd_mul_left]
  simp
theorem mkF_two {t l : Int} (h : gcdOk (2 * t) (2 * l)) : mkF (2 * t) (2 * l) = mkF t l := by
  unfold mkF
  rw [gcdOf_two h, Int.mul_tdiv_mul_of_pos _ _ (by omega), Int.mul_tdiv_mul_of_pos _ _ (by omega)]
  by_cases hl : l < 0
  · rw [if_pos hl, if_pos (by omega)]
  · rw [if_neg hl, if_neg (by omega)]
theorem red_two {t l p q u v : Int} (h : redF t l = ((p, q), true)) (h2 : redF (2 * t) (2 * l) = ((u, v), true)) : u = p ∧ v = q := by
  unfold redF at h h2
  split at h2
  · rename_i hk
    rw [mkF_two hk.1] at h2
    rw [if_pos ⟨by have := hk.1; unfold gcdOk at *; omega, by have := hk.2; omega⟩, h2] at h
    simp only [Prod.mk.injEq, and_true] at h
    exact h
  · simp at h2
theorem red_good {t l p q : Int} (h : redF t l = ((p, q), true)) : frOk p q = true ∧ gcdOk t l ∧ 1 ≤ gcdOf t l ∧ ((0 < l ∧ t = gcdOf t l * p ∧ l = gcdOf t l * q) ∨ (l < 0 ∧ t = -(gcdOf t l * p) ∧ l = -(gcdOf t l * q))) := by
  unfold redF at h
  split at h
  · rename_i hk
    obtain ⟨h1, h2⟩ := hk
    have e := gcdOf_in h1
    have hp : 0 < Int.gcd t l := Int.gcd_pos_of_ne_zero_right _ h2
    obtain ⟨u, hu⟩ := Int.gcd_dvd_left t l
    obtain ⟨v, hv⟩ := Int.gcd_dvd_right t l
    have hn : (Int.gcd t l : Int) ≠ 0 := by omega
    have e1 : t.tdiv (Int.gcd t l) = u := by conv => lhs; arg 1; rw [hu]
                                             rw [Int.mul_tdiv_cancel_left _ hn]
    have e2 : l.tdiv (Int.gcd t l) = v := by conv => lhs; arg 1; rw [hv]
                                             rw [Int.mul_tdiv_cancel_left _ hn]
    unfold mkF at h
    rw [e, e1, e2] at h
    split at h
    · rename_i hl
      split at h
      · rename_i hf
        simp only [Prod.mk.injEq, and_true] at h
        obtain ⟨rfl, rfl⟩ := h
        refine ⟨hf, h1, by omega, .inr ⟨hl, ?_, ?_⟩⟩
        · rw [e, Int.mul_neg, Int.neg_neg]; exact hu
        · rw [e, Int.mul_neg, Int.neg_neg]; exact hv
      · simp at h
    · rename_i hl
      split at h
      · rename_i hf
        simp only [Prod.mk.injEq, and_true] at h
        obtain ⟨rfl, rfl⟩ := h
        exact ⟨hf, h1, by omega, .inl ⟨by omega, by rw [e]; exact hu, by rw [e]; exact hv⟩⟩
      · simp at h
  · simp at h
theorem red_bad2 {t l p q : Int} {o : Bool} (h : redF t l = ((p, q), o)) : o = true ∨ (p = 0 ∧ q = 0) := by
  cases o
  · exact .inr (red_bad h)
  · exact .inl rfl
attribute [local go_sem] alloc_drewN' setCell_drewN'
set_option maxHeartbeats 4000000 in
theorem fnReduceFraction.walk (w : World) (a : Option Addr) (len cap : Nat) (zs : List Int) (hrow : IsRow .u8 w a len cap zs) :
    Calls Try.prog 8 #[.slice a len cap] w fun e w' => e = .returned (.bool true) ∧ Below w.heap.size w w' := by
  obtain ⟨hl1, hl2, -⟩ := code_of_row hrow
  have hm : (len : Int) ≤ 9223372036854775807 := by unfold maxLen at hl2; omega
  by_cases hbig : (1048576 : Int) < (len : Int)
  · clear hrow hl1 hl2
    go_enter Try.func8, Try.ntmps8
    go_wp2
    go_ret
    exact ⟨rfl, Below.refl _ _⟩
  · skip
    go_enter Try.func8, Try.ntmps8
    go_wp2_with fail
    refine (drawreducefraction_any hrow).mono ?_
    rintro e w1 ⟨a, b, a0, a1, b0, b1, rfl, hb⟩
    have HB := Lib.hid hb
    clear hb hrow hl1 hl2
    go_wp2_with fail
    refine (red_impl _ _ _).mono ?_
    rintro e w2 ⟨p, q, o, rfl, hm, hb⟩
    have HM := Lib.hid hm
    clear hm
    (repeat (replace hb := undrew hb)); (repeat (replace hb := unalloc hb)); have HB := Lib.hid (HB.out.trans (hb.mono HB.out.size)); clear hb
    go_wp2_with fail
    refine (red_spec _ _ _).mono ?_
    rintro e w3 ⟨p2, q2, o2, rfl, hm, hb⟩
    have e12 := HM.out.symm.trans hm; simp only [Prod.mk.injEq] at e12; obtain ⟨⟨rfl, rfl⟩, rfl⟩ := e12; clear hm; (repeat (replace hb := undrew hb)); have bx := (Blk.new _ _ _).below hb (by simp); (try rw [World.size_alloc] at bx); have Bx := Lib.hid bx; obtain ⟨kx0, kx1, -, -, lx⟩ := blk2 bx; clear bx; (repeat (replace hb := unalloc hb)); have HB := Lib.hid (HB.out.trans (hb.mono HB.out.size)); clear hb
    cases o
    · obtain ⟨rfl, rfl⟩ := red_bad HM.out
      go_wp2_with (first | (go_at_call 18; refine (alive_any _).mono ?_; rintro e w' ⟨rfl, rfl⟩))
      go_ret
      have hb := HB.out
      have := hb.size
      exact ⟨rfl, (by repeat' (first | (with_reducible exact Below.refl _ _) | (with_reducible assumption) | (with_reducible refine below_drewN ?_ _) | (with_reducible refine Below.drew ?_) | (with_reducible refine bl_alloc ?_ _) | (with_reducible refine bl_set ?_ ?_ _) | go_size | omega))⟩
    · obtain ⟨g1, g2, g3, g4⟩ := red_good HM.out
      obtain ⟨n, hn⟩ : ∃ n, gcdOf a b = n := ⟨_, rfl⟩
      rw [hn] at g3 g4
      go_wp2_with fail
      refine (gcd_impl _ _ _).mono ?_
      rintro e w4 ⟨rfl, mm, rfl⟩
      rw [hn]
      go_wp2_with fail
      refine (red_impl _ _ _).mono ?_
      rintro e w5 ⟨p3, q3, o3, rfl, hm, hb⟩
      have hbo : o3 = true → p3 = p ∧ q3 = q := fun h => red_two HM.out (by rw [h] at hm; exact hm)
      have hbd := red_bad2 hm
      clear hm
      replace hb := undrewN hb
      (repeat (replace hb := undrew hb)); (repeat (replace hb := unalloc hb)); have bx := Bx.out.below hb Bx.out.lt; obtain ⟨kx0, kx1, -, -, lx⟩ := blk2 bx; have Bx := Lib.hid bx; clear bx; have HB := Lib.hid (HB.out.trans (hb.mono HB.out.size)); clear hb
      obtain ⟨t1, t2, t3, t4, -⟩ := frOk_mk g1
      have hng : (-n) * p = -(n * p) := Int.neg_mul n p
      have hng2 : (-n) * q = -(n * q) := Int.neg_mul n q
      clear hn g2
      have hn1 : n * 1 ≤ n * q := Int.mul_le_mul_of_nonneg_left t3 (by omega)
      have HM := Lib.hid HM.out
      rcases g4 with ⟨s1, s2, s3⟩ | ⟨s1, s2, s3⟩
      all_goals
        have s4 : ¬ (n * q = 0) := by omega
        cases o3
        · clear hbo
          go_wp2_with (first | (go_at_call 21; refine (fv_impl _ _ _).mono ?_; rintro e w' ⟨rfl, mm, rfl⟩))
          all_goals (go_ret; have hb := HB.out; have := hb.size; exact ⟨ret_bool (by first | rfl | (simp; done) | (simp; omega)), (by repeat' (first | (with_reducible exact Below.refl _ _) | (with_reducible assumption) | (with_reducible refine below_drewN ?_ _) | (with_reducible refine Below.drew ?_) | (with_reducible refine bl_alloc ?_ _) | (with_reducible refine bl_set ?_ ?_ _) | go_size | omega))⟩)
        · obtain ⟨rfl, rfl⟩ := hbo rfl
          go_wp2_with (first | (go_at_call 21; refine (fv_impl _ _ _).mono ?_; rintro e w' ⟨rfl, mm, rfl⟩))
          all_goals (go_ret; have hb := HB.out; have := hb.size; exact ⟨ret_bool (by first | rfl | (simp; done) | (simp; omega)), (by repeat' (first | (with_reducible exact Below.refl _ _) | (with_reducible assumption) | (with_reducible refine below_drewN ?_ _) | (with_reducible refine Below.drew ?_) | (with_reducible refine bl_alloc ?_ _) | (with_reducible refine bl_set ?_ ?_ _) | go_size | omega))⟩)

/-! THE ROW's STEP of FnReduceFraction: from the contract of the law's walk to the given statement. -/
namespace fnReduceFraction
set_option maxRecDepth 100000 in
theorem lifted (os : Os) (started : os.Started) (H : Type) (enc : TypeId × Value → H) :
    ReturnsInHanded {} Try.checked os 8 .any (Rows.fnReduceFractionSpec.pre6 enc Try.prog Try.f8 Rows.fnReduceFractionRow.domain false) (Rows.fnReduceFractionSpec.post enc Try.prog Try.f8 false true false false) := by
  refine returnsInHanded_of_change (C := Try.checked) own started (by kernel_rfl) Try.func8
    (ChangeSpec.witness6 (enc := enc) (C := Try.checked) false ⟨#[], #[.slice none 0 0], []⟩ 8 (by kernel_rfl) (by kernel_rfl) (by kernel_rfl) (by kernel_rfl)) ?_
  intro W base args ds gs before hval0 hW hcnd _
  have hval : ∀ (j : Nat) t v, Try.f8.params[j]? = some t → args[j]? = some v → Value.okWide Try.prog W .any base t v := hval0
  have hW' := hW
  obtain ⟨p, q, hA0, hV, rfl, hfz, hnd⟩ := hW
  have hA : DataW.TrodAll enc Try.prog W 0 (fun _ => true) true Try.f8.params.toList args.toList ds p := hA0
  rw [Try.params8] at hA hval
  obtain ⟨v0, vs0, d0, ds0, p0, q0, hargs, rfl, rfl, h0, r0⟩ := trodAll_cons hA
  obtain ⟨rfl, rfl, rfl⟩ := trodAll_nil r0
  obtain rfl : args = #[v0] := by cases args; simp_all
  obtain ⟨rfl, rfl⟩ := trodVars_none hV
  have k0 := h0
  have lt0 : ∀ x ∈ p0, x.block < W.heap.size := by obtain ⟨m, hm⟩ := k0; exact DataW.trod_lt m _ _ _ hm
  obtain ⟨a0, len0, cap0, rfl⟩ := okWide_slice Try.underlying24 (hval 0 24 v0 rfl rfl)
  obtain ⟨z0, w0⟩ : ∃ zs, IsRow .u8 W a0 len0 cap0 zs := by
    obtain ⟨fuel, hf⟩ := h0
    rcases open_ints Try.underlying24 Try.underlying5 (by kernel_rfl) hf with ⟨hcs, _⟩ | ⟨x, l, c, zs, hcs, _, hl, hm, hz, _, hcell, hwz⟩
    · simp [Value.cells] at hcs
      obtain ⟨rfl, rfl, rfl⟩ := hcs
      exact ⟨[], .inl ⟨rfl, rfl, rfl, rfl⟩⟩
    · simp [Value.cells] at hcs
      obtain ⟨rfl, rfl, rfl⟩ := hcs
      exact ⟨zs, .inr ⟨_, rfl, hl, hm, by simpa using hz, hcell, hwz, isRow_lt hcell⟩⟩
  clear hA0 hval0
  refine (walk W a0 len0 cap0 z0 w0).mono fun e W' ⟨he, bel⟩ => ?_
  subst he
  exact ⟨_, rfl, _, _, _, [], _, [], hW', trodAll_mk1 (shut_bool Try.underlying4 _), (trodAll_cons_mk (Below.trod laidOut (by kernel_rfl) (of_decide_eq_true (by kernel_rfl)) k0 bel lt0) trodAll_mk0), rfl, bel.frame _, fun h => by cases h⟩
end fnReduceFraction

theorem fnReduceFraction_holds : Rows.FnReduceFractionSaid :=
  OpenClaim.holds_of_wide 8 Try.f8 rfl rfl rfl rfl rfl rfl rfl ⟨rfl, rfl, rfl, rfl, rfl⟩ rfl rfl rfl rfl rfl (by kernel_rfl) Try.func8 (by kernel_rfl)
    (of_decide_eq_true (by kernel_rfl)) (by unfold Func.isWrapper; first | (rw [if_pos (by decide +kernel)]; kernel_rfl) | (rw [if_neg (by decide +kernel)]; exact ⟨rfl, rfl⟩))
    (fun os started H enc _ => fnReduceFraction.lifted os started H enc)
#print axioms fnReduceFraction_holds

end Go.Proofs.Ytlcmpcjimmdcfaa

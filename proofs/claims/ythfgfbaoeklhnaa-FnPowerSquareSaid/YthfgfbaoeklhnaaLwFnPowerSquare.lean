/- Powers are multiplied: the power of a sum of exponents is the product of both powers, if all are valid. No condition. -/
import Derived.Test.YthfgfbaoeklhnaaDrawSq4
import Derived.Test.YthfgfbaoeklhnaaSqP
import Derived.Test.YthfgfbaoeklhnaaAlive
namespace Go.Proofs.Ythfgfbaoeklhnaa
open Go.ChangeShapes Go.WideShapes Go.ChangeAt Go.RowKit

set_option maxHeartbeats 4000000 in
theorem fnPowerSquare.walk (w : World) (a : Option Addr) (len cap : Nat) (zs : List Int) (hrow : IsRow .u8 w a len cap zs) :
    Calls Try.prog 16 #[.slice a len cap] w fun e w' => e = .returned (.bool true) ∧ Below w.heap.size w w' := by
  obtain ⟨hl1, hl2, -⟩ := code_of_row hrow
  have hm : (len : Int) ≤ 9223372036854775807 := by unfold maxLen at hl2; omega
  by_cases hbig : (1048576 : Int) < (len : Int)
  · clear hrow hl1 hl2
    go_enter Try.func16, Try.ntmps16
    go_wp2
    go_ret
    exact ⟨rfl, Below.refl _ _⟩
  · go_enter Try.func16, Try.ntmps16
    go_wp2_with fail
    refine (drawpowersquare_any hrow).mono ?_
    rintro e w1 ⟨a1, b1, c1, d1, e1, e1a, e1b, rfl, hb⟩
    have HB := Lib.hid hb
    clear hb hrow hl1 hl2
    go_wp2_with fail
    refine (pow_impl _ _ _ _ _ _ (by omega)).mono ?_
    rintro e w2 ⟨p, q, r, t, o, rfl, hm, hb⟩
    have HM := Lib.hid hm
    clear hm
    have hb0 := hb
    (repeat (replace hb := undrew hb)); have bs := (Blk.new _ _ _).below hb (by simp; done); have Bs := Lib.hid bs; obtain ⟨ks0, ks1, ks2, ks3, -, -, -, -, ls⟩ := blk4 bs; clear bs; (repeat (replace hb := unalloc hb)); have HB := Lib.hid (HB.out.trans (hb.mono HB.out.size)); clear hb hb0
    go_wp2_with fail
    refine (pow_spec _ _ _ _ _ _ (by omega)).mono ?_
    rintro e w3 ⟨p2, q2, r2, t2, o2, rfl, hm, hb⟩
    have e12 := HM.out.symm.trans hm; simp only [Prod.mk.injEq, Sq.mk.injEq] at e12; obtain ⟨⟨rfl, rfl, rfl, rfl⟩, rfl⟩ := e12; clear hm; 
    (repeat (replace hb := undrew hb)); have bx := (Blk.new _ _ _).below hb (by simp); have Bx := Lib.hid bx; obtain ⟨kx0, kx1, kx2, kx3, -, -, -, -, lx⟩ := blk4 bx; clear bx; (repeat (replace hb := unalloc hb)); have bs := Bs.out.below hb Bs.out.lt; obtain ⟨ks0, ks1, ks2, ks3, -, -, -, -, ls⟩ := blk4 bs; have Bs := Lib.hid bs; clear bs; have HB := Lib.hid (HB.out.trans (hb.mono HB.out.size)); clear hb
    cases o
    · have h0 := power_bad HM.out
      simp only [Sq.zero, Sq.mk.injEq] at h0
      obtain ⟨rfl, rfl, rfl, rfl⟩ := h0
      go_wp2_with (first | (go_at_call 32; refine (alive_any _).mono ?_; rintro e w' ⟨rfl, rfl⟩))
      go_ret
      have hb := HB.out
      have := hb.size
      exact ⟨rfl, (by repeat' (first | (with_reducible exact Below.refl _ _) | (with_reducible assumption) | (with_reducible refine below_drewN ?_ _) | (with_reducible refine Below.drew ?_) | (with_reducible refine bl_alloc ?_ _) | (with_reducible refine bl_set ?_ ?_ _) | go_size | omega))⟩
    · obtain ⟨g0, g1, g2, ⟨ya, yb, yc, yd⟩, ⟨za, zb, zc, zd⟩, h1, h2, h3, h4, h5⟩ := power_split HM.out
      have H1 := Lib.hid h1
      have H2 := Lib.hid h2
      have H5 := Lib.hid h5
      clear h1 h2 h3 h4 h5
      go_wp2_with fail
      refine (pow_impl _ _ _ _ _ _ (by omega)).mono ?_
      rintro e w4 ⟨p3, q3, r3, t3, o3, rfl, hm, hb⟩
      have e12 := H1.out.symm.trans hm; simp only [Prod.mk.injEq, Sq.mk.injEq] at e12; obtain ⟨⟨rfl, rfl, rfl, rfl⟩, rfl⟩ := e12; clear hm
      (repeat (replace hb := undrew hb)); (repeat (replace hb := unalloc hb)); have bs := Bs.out.below hb Bs.out.lt; obtain ⟨ks0, ks1, ks2, ks3, -, -, -, -, ls⟩ := blk4 bs; have Bs := Lib.hid bs; clear bs; have bx := Bx.out.below hb Bx.out.lt; obtain ⟨kx0, kx1, kx2, kx3, -, -, -, -, lx⟩ := blk4 bx; have Bx := Lib.hid bx; clear bx; have HB := Lib.hid (HB.out.trans (hb.mono HB.out.size)); clear hb
      go_wp2_with fail
      refine (pow_impl _ _ _ _ _ _ (by omega)).mono ?_
      rintro e w5 ⟨p4, q4, r4, t4, o4, rfl, hm, hb⟩
      have e12 := H2.out.symm.trans hm; simp only [Prod.mk.injEq, Sq.mk.injEq] at e12; obtain ⟨⟨rfl, rfl, rfl, rfl⟩, rfl⟩ := e12; clear hm
      (repeat (replace hb := undrew hb)); have bn := (Blk.new _ _ _).below hb (by simp); have Bn := Lib.hid bn; obtain ⟨kn0, kn1, kn2, kn3, -, -, -, -, ln⟩ := blk4 bn; clear bn; (repeat (replace hb := unalloc hb)); have bs := Bs.out.below hb Bs.out.lt; obtain ⟨ks0, ks1, ks2, ks3, -, -, -, -, ls⟩ := blk4 bs; have Bs := Lib.hid bs; clear bs; have bx := Bx.out.below hb Bx.out.lt; obtain ⟨kx0, kx1, kx2, kx3, -, -, -, -, lx⟩ := blk4 bx; have Bx := Lib.hid bx; clear bx; have HB := Lib.hid (HB.out.trans (hb.mono HB.out.size)); clear hb
      go_wp2_with fail
      refine (mul_impl _ _ _ _ _ _ _ _ _).mono ?_
      rintro e w6 ⟨p5, q5, r5, t5, o5, rfl, hm, hb⟩
      have e12 := H5.out.symm.trans hm; simp only [Prod.mk.injEq, Sq.mk.injEq] at e12; obtain ⟨⟨rfl, rfl, rfl, rfl⟩, rfl⟩ := e12; clear hm
      (repeat (replace hb := undrew hb)); (repeat (replace hb := unalloc hb)); have bs := Bs.out.below hb Bs.out.lt; obtain ⟨ks0, ks1, ks2, ks3, -, -, -, -, ls⟩ := blk4 bs; have Bs := Lib.hid bs; clear bs; have bx := Bx.out.below hb Bx.out.lt; obtain ⟨kx0, kx1, kx2, kx3, -, -, -, -, lx⟩ := blk4 bx; have Bx := Lib.hid bx; clear bx; have HB := Lib.hid (HB.out.trans (hb.mono HB.out.size)); clear hb
      go_wp2_with (first | (go_at_call 19; refine (sqv_impl _ _ _ _ _).mono ?_; rintro e w' ⟨rfl, rfl⟩))
      all_goals (go_ret; have hb := HB.out; have := hb.size; exact ⟨ret_bool (by first | rfl | (simp; done) | (simp; omega)), (by repeat' (first | (with_reducible exact Below.refl _ _) | (with_reducible assumption) | (with_reducible refine below_drewN ?_ _) | (with_reducible refine Below.drew ?_) | (with_reducible refine bl_alloc ?_ _) | (with_reducible refine bl_set ?_ ?_ _) | go_size | omega))⟩)

/-! THE ROW's STEP of FnPowerSquare: from the contract of the law's walk to the given statement. -/
namespace fnPowerSquare
set_option maxRecDepth 100000 in
theorem lifted (os : Os) (started : os.Started) (H : Type) (enc : TypeId × Value → H) :
    ReturnsInHanded {} Try.checked os 16 .any (Rows.fnPowerSquareSpec.pre6 enc Try.prog Try.f16 Rows.fnPowerSquareRow.domain false) (Rows.fnPowerSquareSpec.post enc Try.prog Try.f16 false true false false) := by
  refine returnsInHanded_of_change (C := Try.checked) own started (by kernel_rfl) Try.func16
    (ChangeSpec.witness6 (enc := enc) (C := Try.checked) false ⟨#[], #[.slice none 0 0], []⟩ 8 (by kernel_rfl) (by kernel_rfl) (by kernel_rfl) (by kernel_rfl)) ?_
  intro W base args ds gs before hval0 hW hcnd _
  have hval : ∀ (j : Nat) t v, Try.f16.params[j]? = some t → args[j]? = some v → Value.okWide Try.prog W .any base t v := hval0
  have hW' := hW
  obtain ⟨p, q, hA0, hV, rfl, hfz, hnd⟩ := hW
  have hA : DataW.TrodAll enc Try.prog W 0 (fun _ => true) true Try.f16.params.toList args.toList ds p := hA0
  rw [Try.params16] at hA hval
  obtain ⟨v0, vs0, d0, ds0, p0, q0, hargs, rfl, rfl, h0, r0⟩ := trodAll_cons hA
  obtain ⟨rfl, rfl, rfl⟩ := trodAll_nil r0
  obtain rfl : args = #[v0] := by cases args; simp_all
  obtain ⟨rfl, rfl⟩ := trodVars_none hV
  have k0 := h0
  have lt0 : ∀ x ∈ p0, x.block < W.heap.size := by obtain ⟨m, hm⟩ := k0; exact DataW.trod_lt m _ _ _ hm
  obtain ⟨a0, len0, cap0, rfl⟩ := okWide_slice Try.underlying39 (hval 0 39 v0 rfl rfl)
  obtain ⟨z0, w0⟩ : ∃ zs, IsRow .u8 W a0 len0 cap0 zs := by
    obtain ⟨fuel, hf⟩ := h0
    rcases open_ints Try.underlying39 Try.underlying5 (by kernel_rfl) hf with ⟨hcs, _⟩ | ⟨x, l, c, zs, hcs, _, hl, hm, hz, _, hcell, hwz⟩
    · simp [Value.cells] at hcs
      obtain ⟨rfl, rfl, rfl⟩ := hcs
      exact ⟨[], .inl ⟨rfl, rfl, rfl, rfl⟩⟩
    · simp [Value.cells] at hcs
      obtain ⟨rfl, rfl, rfl⟩ := hcs
      exact ⟨zs, .inr ⟨_, rfl, hl, hm, by simpa using hz, hcell, hwz, isRow_lt hcell⟩⟩
  clear hA0 hval0
  refine (walk W a0 len0 cap0 z0 w0).mono fun e W' ⟨he, bel⟩ => ?_
  subst he
  exact ⟨_, rfl, _, _, _, [], _, [], hW', trodAll_mk1 (shut_bool Try.underlying4 _), (trodAll_cons_mk (Below.trod laidOut (by kernel_rfl) (of_decide_eq_true (by kernel_rfl)) k0 bel lt0) trodAll_mk0), rfl, bel.frame _, fun h => by cases h⟩
end fnPowerSquare

theorem fnPowerSquare_holds : Rows.FnPowerSquareSaid :=
  OpenClaim.holds_of_wide 16 Try.f16 rfl rfl rfl rfl rfl rfl rfl ⟨rfl, rfl, rfl, rfl, rfl⟩ rfl rfl rfl rfl rfl (by kernel_rfl) Try.func16 (by kernel_rfl)
    (of_decide_eq_true (by kernel_rfl)) (by unfold Func.isWrapper; first | (rw [if_pos (by decide +kernel)]; kernel_rfl) | (rw [if_neg (by decide +kernel)]; exact ⟨rfl, rfl⟩))
    (fun os started H enc _ => fnPowerSquare.lifted os started H enc)
#print axioms fnPowerSquare_holds

end Go.Proofs.Ythfgfbaoeklhnaa

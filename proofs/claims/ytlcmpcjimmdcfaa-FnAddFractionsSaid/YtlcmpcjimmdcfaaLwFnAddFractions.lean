/- Sums can be taken back: adding the second one with the other sign leads to the first one; the order does not matter. No condition. -/
import Derived.Test.YtlcmpcjimmdcfaaDrawF2
import Derived.Test.YtlcmpcjimmdcfaaFracP
import Derived.Test.YtlcmpcjimmdcfaaAlive
namespace Go.Proofs.Ytlcmpcjimmdcfaa
open Go.ChangeShapes Go.WideShapes Go.ChangeAt Go.RowKit

attribute [local go_sem] alloc_drewN' setCell_drewN'
set_option maxHeartbeats 4000000 in
theorem fnAddFractions.walk (w : World) (a : Option Addr) (len cap : Nat) (zs : List Int) (hrow : IsRow .u8 w a len cap zs) :
    Calls Try.prog 10 #[.slice a len cap] w fun e w' => e = .returned (.bool true) ∧ Below w.heap.size w w' := by
  obtain ⟨hl1, hl2, -⟩ := code_of_row hrow
  have hm : (len : Int) ≤ 9223372036854775807 := by unfold maxLen at hl2; omega
  by_cases hbig : (1048576 : Int) < (len : Int)
  · clear hrow hl1 hl2
    go_enter Try.func10, Try.ntmps10
    go_wp2
    go_ret
    exact ⟨rfl, Below.refl _ _⟩
  · skip
    go_enter Try.func10, Try.ntmps10
    go_wp2_with fail
    refine (drawaddfractions_any hrow).mono ?_
    rintro e w1 ⟨a, b, c, d, hA, hC, rfl, hb⟩
    have HB := Lib.hid hb
    clear hb hrow hl1 hl2
    go_wp2_with fail
    refine (fradd_impl _ _ _ _ _).mono ?_
    rintro e w2 ⟨p, q, o, rfl, hm, hb⟩
    have HM := Lib.hid hm
    clear hm
    have ba := ((Blk.new w1 _ _).alloc _).below hb (by simp; omega)
    have bb := (Blk.new (w1.alloc _) _ _).below hb (by simp)
    rw [World.size_alloc] at bb
    obtain ⟨ka0, ka1, -, -, la⟩ := blk2 ba
    obtain ⟨kb0, kb1, -, -, lb⟩ := blk2 bb
    have Ba := Lib.hid ba
    have Bb := Lib.hid bb
    (repeat (replace hb := unalloc hb))
    have HB := Lib.hid (HB.out.trans (hb.mono HB.out.size))
    clear hb ba bb
    go_wp2_with fail
    refine (fradd_spec _ _ _ _ _).mono ?_
    rintro e w3 ⟨p2, q2, o2, rfl, hm, hb⟩
    have e12 := HM.out.symm.trans hm; simp only [Prod.mk.injEq] at e12; obtain ⟨⟨rfl, rfl⟩, rfl⟩ := e12; clear hm; (repeat (replace hb := undrew hb)); have bx := (Blk.new _ _ _).below hb (by simp); (try rw [World.size_alloc] at bx); have Bx := Lib.hid bx; obtain ⟨kx0, kx1, -, -, lx⟩ := blk2 bx; clear bx; (repeat (replace hb := unalloc hb)); have ba := Ba.out.below hb Ba.out.lt; obtain ⟨ka0, ka1, -, -, la⟩ := blk2 ba; have Ba := Lib.hid ba; clear ba; have bb := Bb.out.below hb Bb.out.lt; obtain ⟨kb0, kb1, -, -, lb⟩ := blk2 bb; have Bb := Lib.hid bb; clear bb; have HB := Lib.hid (HB.out.trans (hb.mono HB.out.size)); clear hb
    have HC := Lib.hid ((frAdd_comm a b c d).trans HM.out)
    go_wp2_with fail
    refine (fradd_impl _ _ _ _ _).mono ?_
    rintro e w4 ⟨p2, q2, o2, rfl, hm, hb⟩
    have e12 := HC.out.symm.trans hm; simp only [Prod.mk.injEq] at e12; obtain ⟨⟨rfl, rfl⟩, rfl⟩ := e12; clear hm; (repeat (replace hb := undrew hb)); (repeat (replace hb := unalloc hb)); have ba := Ba.out.below hb Ba.out.lt; obtain ⟨ka0, ka1, -, -, la⟩ := blk2 ba; have Ba := Lib.hid ba; clear ba; have bb := Bb.out.below hb Bb.out.lt; obtain ⟨kb0, kb1, -, -, lb⟩ := blk2 bb; have Bb := Lib.hid bb; clear bb; have bx := Bx.out.below hb Bx.out.lt; obtain ⟨kx0, kx1, -, -, lx⟩ := blk2 bx; have Bx := Lib.hid bx; clear bx; have HB := Lib.hid (HB.out.trans (hb.mono HB.out.size)); clear hb
    cases o
    · obtain ⟨rfl, rfl⟩ := frAdd_bad HM.out
      go_wp2_with (first | (go_at_call 18; refine (alive_any _).mono ?_; rintro e w' ⟨rfl, rfl⟩))
      go_ret
      have hb := HB.out
      have := hb.size
      exact ⟨rfl, (by repeat' (first | (with_reducible exact Below.refl _ _) | (with_reducible assumption) | (with_reducible refine below_drewN ?_ _) | (with_reducible refine Below.drew ?_) | (with_reducible refine bl_alloc ?_ _) | (with_reducible refine bl_set ?_ ?_ _) | go_size | omega))⟩
    · obtain ⟨g1, g2, g3, -⟩ := frAdd_good HM.out
      have HK := Lib.hid (frAdd_back HM.out)
      have mm2 := frOk_mk g2
      obtain ⟨n1, n2, -⟩ := mm2
      go_wp2_with fail
      refine (fradd_impl _ _ _ _ _).mono ?_
      rintro e w5 ⟨p3, q3, o3, rfl, hm, hb⟩
      have e12 := HK.out.symm.trans hm; simp only [Prod.mk.injEq] at e12; obtain ⟨⟨rfl, rfl⟩, rfl⟩ := e12; clear hm; (repeat (replace hb := undrew hb)); (repeat (replace hb := unalloc hb)); have ba := Ba.out.below hb Ba.out.lt; obtain ⟨ka0, ka1, -, -, la⟩ := blk2 ba; have Ba := Lib.hid ba; clear ba; have bb := Bb.out.below hb Bb.out.lt; obtain ⟨kb0, kb1, -, -, lb⟩ := blk2 bb; have Bb := Lib.hid bb; clear bb; have bx := Bx.out.below hb Bx.out.lt; obtain ⟨kx0, kx1, -, -, lx⟩ := blk2 bx; have Bx := Lib.hid bx; clear bx; have HB := Lib.hid (HB.out.trans (hb.mono HB.out.size)); clear hb
      go_wp2_with (first | (go_at_call 21; refine (fv_impl _ _ _).mono ?_; rintro e w' ⟨rfl, mm, rfl⟩))
      go_ret
      have hb := HB.out
      have := hb.size
      exact ⟨rfl, (by repeat' (first | (with_reducible exact Below.refl _ _) | (with_reducible assumption) | (with_reducible refine below_drewN ?_ _) | (with_reducible refine Below.drew ?_) | (with_reducible refine bl_alloc ?_ _) | (with_reducible refine bl_set ?_ ?_ _) | go_size | omega))⟩

/-! THE ROW's STEP of FnAddFractions: from the contract of the law's walk to the given statement. -/
namespace fnAddFractions
set_option maxRecDepth 100000 in
theorem lifted (os : Os) (started : os.Started) (H : Type) (enc : TypeId × Value → H) :
    ReturnsInHanded {} Try.checked os 10 .any (Rows.fnAddFractionsSpec.pre6 enc Try.prog Try.f10 Rows.fnAddFractionsRow.domain false) (Rows.fnAddFractionsSpec.post enc Try.prog Try.f10 false true false false) := by
  refine returnsInHanded_of_change (C := Try.checked) own started (by kernel_rfl) Try.func10
    (ChangeSpec.witness6 (enc := enc) (C := Try.checked) false ⟨#[], #[.slice none 0 0], []⟩ 8 (by kernel_rfl) (by kernel_rfl) (by kernel_rfl) (by kernel_rfl)) ?_
  intro W base args ds gs before hval0 hW hcnd _
  have hval : ∀ (j : Nat) t v, Try.f10.params[j]? = some t → args[j]? = some v → Value.okWide Try.prog W .any base t v := hval0
  have hW' := hW
  obtain ⟨p, q, hA0, hV, rfl, hfz, hnd⟩ := hW
  have hA : DataW.TrodAll enc Try.prog W 0 (fun _ => true) true Try.f10.params.toList args.toList ds p := hA0
  rw [Try.params10] at hA hval
  obtain ⟨v0, vs0, d0, ds0, p0, q0, hargs, rfl, rfl, h0, r0⟩ := trodAll_cons hA
  obtain ⟨rfl, rfl, rfl⟩ := trodAll_nil r0
  obtain rfl : args = #[v0] := by cases args; simp_all
  obtain ⟨rfl, rfl⟩ := trodVars_none hV
  have k0 := h0
  have lt0 : ∀ x ∈ p0, x.block < W.heap.size := by obtain ⟨m, hm⟩ := k0; exact DataW.trod_lt m _ _ _ hm
  obtain ⟨a0, len0, cap0, rfl⟩ := okWide_slice Try.underlying24 (hval 0 24 v0 rfl rfl)
  obtain ⟨z0, w0⟩ : ∃ zs, IsRow .u8 W a0 len0 cap0 zs := by
    obtain ⟨fuel, hf⟩ := h0
    rcases open_ints Try.underlying24 Try.underlying5 (by kernel_rfl) hf with ⟨hcs, _⟩ | ⟨x, l, c, zs, hcs, _, hl, hm, hz, _, hcell, hwz⟩
    · simp [Value.cells] at hcs
      obtain ⟨rfl, rfl, rfl⟩ := hcs
      exact ⟨[], .inl ⟨rfl, rfl, rfl, rfl⟩⟩
    · simp [Value.cells] at hcs
      obtain ⟨rfl, rfl, rfl⟩ := hcs
      exact ⟨zs, .inr ⟨_, rfl, hl, hm, by simpa using hz, hcell, hwz, isRow_lt hcell⟩⟩
  clear hA0 hval0
  refine (walk W a0 len0 cap0 z0 w0).mono fun e W' ⟨he, bel⟩ => ?_
  subst he
  exact ⟨_, rfl, _, _, _, [], _, [], hW', trodAll_mk1 (shut_bool Try.underlying4 _), (trodAll_cons_mk (Below.trod laidOut (by kernel_rfl) (of_decide_eq_true (by kernel_rfl)) k0 bel lt0) trodAll_mk0), rfl, bel.frame _, fun h => by cases h⟩
end fnAddFractions

theorem fnAddFractions_holds : Rows.FnAddFractionsSaid :=
  OpenClaim.holds_of_wide 10 Try.f10 rfl rfl rfl rfl rfl rfl rfl ⟨rfl, rfl, rfl, rfl, rfl⟩ rfl rfl rfl rfl rfl (by kernel_rfl) Try.func10 (by kernel_rfl)
    (of_decide_eq_true (by kernel_rfl)) (by unfold Func.isWrapper; first | (rw [if_pos (by decide +kernel)]; kernel_rfl) | (rw [if_neg (by decide +kernel)]; exact ⟨rfl, rfl⟩))
    (fun os started H enc _ => fnAddFractions.lifted os started H enc)
#print axioms fnAddFractions_holds

end Go.Proofs.Ytlcmpcjimmdcfaa

/- Products are spread: a product with a sum is the sum of both products, if all are valid; the order does not matter. No condition. -/
import Derived.Test.YtlcmpcjimmdcfaaDrawF2
import Derived.Test.YtlcmpcjimmdcfaaFracP
import Derived.Test.YtlcmpcjimmdcfaaAlive
namespace Go.Proofs.Ytlcmpcjimmdcfaa
open Go.ChangeShapes Go.WideShapes Go.ChangeAt Go.RowKit

attribute [local go_sem] alloc_drewN' setCell_drewN'
set_option maxHeartbeats 4000000 in
theorem fnMulFractions.walk (w : World) (a : Option Addr) (len cap : Nat) (zs : List Int) (hrow : IsRow .u8 w a len cap zs) :
    Calls Try.prog 12 #[.slice a len cap] w fun e w' => e = .returned (.bool true) ∧ Below w.heap.size w w' := by
  obtain ⟨hl1, hl2, -⟩ := code_of_row hrow
  have hm : (len : Int) ≤ 9223372036854775807 := by unfold maxLen at hl2; omega
  by_cases hbig : (1048576 : Int) < (len : Int)
  · clear hrow hl1 hl2
    go_enter Try.func12, Try.ntmps12
    go_wp2
    go_ret
    exact ⟨rfl, Below.refl _ _⟩
  · skip
    go_enter Try.func12, Try.ntmps12
    go_wp2_with fail
    refine (drawmulfractions_any hrow).mono ?_
    rintro e w1 ⟨a, b, c, d, hA, hC, rfl, hb⟩
    have HB := Lib.hid hb
    clear hb hrow hl1 hl2
    go_wp2_with fail
    refine (frmul_impl _ _ _ _ _).mono ?_
    rintro e w2 ⟨p, q, o, rfl, hm, hb⟩
    have HM := Lib.hid hm
    clear hm
    have ba := ((Blk.new w1 _ _).alloc _).below hb (by simp; omega)
    have bb := (Blk.new (w1.alloc _) _ _).below hb (by simp)
    rw [World.size_alloc] at bb
    obtain ⟨ka0, ka1, -, -, la⟩ := blk2 ba
    obtain ⟨kb0, kb1, -, -, lb⟩ := blk2 bb
    have Ba := Lib.hid ba
    have Bb := Lib.hid bb
    (repeat (replace hb := unalloc hb))
    have HB := Lib.hid (HB.out.trans (hb.mono HB.out.size))
    clear hb ba bb
    go_wp2_with fail
    refine (frmul_spec _ _ _ _ _).mono ?_
    rintro e w3 ⟨p2, q2, o2, rfl, hm, hb⟩
    have e12 := HM.out.symm.trans hm; simp only [Prod.mk.injEq] at e12; obtain ⟨⟨rfl, rfl⟩, rfl⟩ := e12; clear hm; (repeat (replace hb := undrew hb)); have bx := (Blk.new _ _ _).below hb (by simp); (try rw [World.size_alloc] at bx); have Bx := Lib.hid bx; obtain ⟨kx0, kx1, -, -, lx⟩ := blk2 bx; clear bx; (repeat (replace hb := unalloc hb)); have ba := Ba.out.below hb Ba.out.lt; obtain ⟨ka0, ka1, -, -, la⟩ := blk2 ba; have Ba := Lib.hid ba; clear ba; have bb := Bb.out.below hb Bb.out.lt; obtain ⟨kb0, kb1, -, -, lb⟩ := blk2 bb; have Bb := Lib.hid bb; clear bb; have HB := Lib.hid (HB.out.trans (hb.mono HB.out.size)); clear hb
    have HC := Lib.hid ((frMul_comm a b c d).trans HM.out)
    go_wp2_with fail
    refine (frmul_impl _ _ _ _ _).mono ?_
    rintro e w4 ⟨p2, q2, o2, rfl, hm, hb⟩
    have e12 := HC.out.symm.trans hm; simp only [Prod.mk.injEq] at e12; obtain ⟨⟨rfl, rfl⟩, rfl⟩ := e12; clear hm; (repeat (replace hb := undrew hb)); (repeat (replace hb := unalloc hb)); have ba := Ba.out.below hb Ba.out.lt; obtain ⟨ka0, ka1, -, -, la⟩ := blk2 ba; have Ba := Lib.hid ba; clear ba; have bb := Bb.out.below hb Bb.out.lt; obtain ⟨kb0, kb1, -, -, lb⟩ := blk2 bb; have Bb := Lib.hid bb; clear bb; have bx := Bx.out.below hb Bx.out.lt; obtain ⟨kx0, kx1, -, -, lx⟩ := blk2 bx; have Bx := Lib.hid bx; clear bx; have HB := Lib.hid (HB.out.trans (hb.mono HB.out.size)); clear hb
    cases o
    · obtain ⟨rfl, rfl⟩ := frMul_bad HM.out
      go_wp2_with (first | (go_at_call 18; refine (alive_any _).mono ?_; rintro e w' ⟨rfl, rfl⟩))
      go_ret
      have hb := HB.out
      have := hb.size
      exact ⟨rfl, (by repeat' (first | (with_reducible exact Below.refl _ _) | (with_reducible assumption) | (with_reducible refine below_drewN ?_ _) | (with_reducible refine Below.drew ?_) | (with_reducible refine bl_alloc ?_ _) | (with_reducible refine bl_set ?_ ?_ _) | go_size | omega))⟩
    · obtain ⟨g1, g2, g3, -⟩ := frMul_good HM.out
      go_wp2_with fail
      refine (fradd_impl _ _ _ _ _).mono ?_
      rintro e w5 ⟨s1, s2, so, rfl, hs, hb⟩
      have HS := Lib.hid hs; clear hs; (repeat (replace hb := undrew hb)); have bt := (Blk.new _ _ _).below hb (by simp); (try rw [World.size_alloc] at bt); have Bt := Lib.hid bt; obtain ⟨kt0, kt1, -, -, lt⟩ := blk2 bt; clear bt; (repeat (replace hb := unalloc hb)); have ba := Ba.out.below hb Ba.out.lt; obtain ⟨ka0, ka1, -, -, la⟩ := blk2 ba; have Ba := Lib.hid ba; clear ba; have bb := Bb.out.below hb Bb.out.lt; obtain ⟨kb0, kb1, -, -, lb⟩ := blk2 bb; have Bb := Lib.hid bb; clear bb; have bx := Bx.out.below hb Bx.out.lt; obtain ⟨kx0, kx1, -, -, lx⟩ := blk2 bx; have Bx := Lib.hid bx; clear bx; have HB := Lib.hid (HB.out.trans (hb.mono HB.out.size)); clear hb
      go_wp2_with fail
      refine (frmul_impl _ _ _ _ _).mono ?_
      rintro e w6 ⟨l1, l2, lo, rfl, hs, hb⟩
      have HL := Lib.hid hs; clear hs; (repeat (replace hb := undrew hb)); have bs := (Blk.new _ _ _).below hb (by simp); (try rw [World.size_alloc] at bs); have Bs := Lib.hid bs; obtain ⟨ks0, ks1, -, -, ls⟩ := blk2 bs; clear bs; (repeat (replace hb := unalloc hb)); have ba := Ba.out.below hb Ba.out.lt; obtain ⟨ka0, ka1, -, -, la⟩ := blk2 ba; have Ba := Lib.hid ba; clear ba; have bb := Bb.out.below hb Bb.out.lt; obtain ⟨kb0, kb1, -, -, lb⟩ := blk2 bb; have Bb := Lib.hid bb; clear bb; have bx := Bx.out.below hb Bx.out.lt; obtain ⟨kx0, kx1, -, -, lx⟩ := blk2 bx; have Bx := Lib.hid bx; clear bx; have bt := Bt.out.below hb Bt.out.lt; obtain ⟨kt0, kt1, -, -, lt⟩ := blk2 bt; have Bt := Lib.hid bt; clear bt; have HB := Lib.hid (HB.out.trans (hb.mono HB.out.size)); clear hb
      go_wp2_with fail
      refine (frmul_impl _ _ _ _ _).mono ?_
      rintro e w7 ⟨o1, o2, oo, rfl, hs, hb⟩
      have HO := Lib.hid hs; clear hs; (repeat (replace hb := undrew hb)); have bu := (Blk.new _ _ _).below hb (by simp); (try rw [World.size_alloc] at bu); have Bu := Lib.hid bu; obtain ⟨ku0, ku1, -, -, lu⟩ := blk2 bu; clear bu; (repeat (replace hb := unalloc hb)); have ba := Ba.out.below hb Ba.out.lt; obtain ⟨ka0, ka1, -, -, la⟩ := blk2 ba; have Ba := Lib.hid ba; clear ba; have bb := Bb.out.below hb Bb.out.lt; obtain ⟨kb0, kb1, -, -, lb⟩ := blk2 bb; have Bb := Lib.hid bb; clear bb; have bx := Bx.out.below hb Bx.out.lt; obtain ⟨kx0, kx1, -, -, lx⟩ := blk2 bx; have Bx := Lib.hid bx; clear bx; have bt := Bt.out.below hb Bt.out.lt; obtain ⟨kt0, kt1, -, -, lt⟩ := blk2 bt; have Bt := Lib.hid bt; clear bt; have bs := Bs.out.below hb Bs.out.lt; obtain ⟨ks0, ks1, -, -, ls⟩ := blk2 bs; have Bs := Lib.hid bs; clear bs; have HB := Lib.hid (HB.out.trans (hb.mono HB.out.size)); clear hb
      go_wp2_with fail
      refine (fradd_impl _ _ _ _ _).mono ?_
      rintro e w8 ⟨r1, r2, ro, rfl, hs, hb⟩
      have HR := Lib.hid hs; clear hs; (repeat (replace hb := undrew hb)); have bv := (Blk.new _ _ _).below hb (by simp); (try rw [World.size_alloc] at bv); have Bv := Lib.hid bv; obtain ⟨kv0, kv1, -, -, lv⟩ := blk2 bv; clear bv; (repeat (replace hb := unalloc hb)); have ba := Ba.out.below hb Ba.out.lt; obtain ⟨ka0, ka1, -, -, la⟩ := blk2 ba; have Ba := Lib.hid ba; clear ba; have bb := Bb.out.below hb Bb.out.lt; obtain ⟨kb0, kb1, -, -, lb⟩ := blk2 bb; have Bb := Lib.hid bb; clear bb; have bx := Bx.out.below hb Bx.out.lt; obtain ⟨kx0, kx1, -, -, lx⟩ := blk2 bx; have Bx := Lib.hid bx; clear bx; have bt := Bt.out.below hb Bt.out.lt; obtain ⟨kt0, kt1, -, -, lt⟩ := blk2 bt; have Bt := Lib.hid bt; clear bt; have bs := Bs.out.below hb Bs.out.lt; obtain ⟨ks0, ks1, -, -, ls⟩ := blk2 bs; have Bs := Lib.hid bs; clear bs; have bu := Bu.out.below hb Bu.out.lt; obtain ⟨ku0, ku1, -, -, lu⟩ := blk2 bu; have Bu := Lib.hid bu; clear bu; have HB := Lib.hid (HB.out.trans (hb.mono HB.out.size)); clear hb
      by_cases hall : so = true ∧ lo = true ∧ oo = true ∧ ro = true
      · obtain ⟨rfl, rfl, rfl, rfl⟩ := hall
        obtain ⟨rfl, rfl⟩ := frMul_spread HM.out HS.out HL.out HO.out HR.out
        go_wp2_with (first | (go_at_call 21; refine (fv_impl _ _ _).mono ?_; rintro e w' ⟨rfl, mm, rfl⟩))
        go_ret
        have hb := HB.out
        have := hb.size
        exact ⟨rfl, (by repeat' (first | (with_reducible exact Below.refl _ _) | (with_reducible assumption) | (with_reducible refine below_drewN ?_ _) | (with_reducible refine Below.drew ?_) | (with_reducible refine bl_alloc ?_ _) | (with_reducible refine bl_set ?_ ?_ _) | go_size | omega))⟩
      · rcases (by cases so <;> cases lo <;> cases oo <;> cases ro <;> simp_all : so = false ∨ (so = true ∧ lo = false) ∨ (so = true ∧ lo = true ∧ oo = false) ∨ (so = true ∧ lo = true ∧ oo = true ∧ ro = false)) with rfl | ⟨rfl, rfl⟩ | ⟨rfl, rfl, rfl⟩ | ⟨rfl, rfl, rfl, rfl⟩
        all_goals
          clear hall
          go_wp2_with (first | (go_at_call 21; refine (fv_impl _ _ _).mono ?_; rintro e w' ⟨rfl, mm, rfl⟩))
          go_ret
          have hb := HB.out
          have := hb.size
          exact ⟨rfl, (by repeat' (first | (with_reducible exact Below.refl _ _) | (with_reducible assumption) | (with_reducible refine below_drewN ?_ _) | (with_reducible refine Below.drew ?_) | (with_reducible refine bl_alloc ?_ _) | (with_reducible refine bl_set ?_ ?_ _) | go_size | omega))⟩

/-! THE ROW's STEP of FnMulFractions: from the contract of the law's walk to the given statement. -/
namespace fnMulFractions
set_option maxRecDepth 100000 in
theorem lifted (os : Os) (started : os.Started) (H : Type) (enc : TypeId × Value → H) :
    ReturnsInHanded {} Try.checked os 12 .any (Rows.fnMulFractionsSpec.pre6 enc Try.prog Try.f12 Rows.fnMulFractionsRow.domain false) (Rows.fnMulFractionsSpec.post enc Try.prog Try.f12 false true false false) := by
  refine returnsInHanded_of_change (C := Try.checked) own started (by kernel_rfl) Try.func12
    (ChangeSpec.witness6 (enc := enc) (C := Try.checked) false ⟨#[], #[.slice none 0 0], []⟩ 8 (by kernel_rfl) (by kernel_rfl) (by kernel_rfl) (by kernel_rfl)) ?_
  intro W base args ds gs before hval0 hW hcnd _
  have hval : ∀ (j : Nat) t v, Try.f12.params[j]? = some t → args[j]? = some v → Value.okWide Try.prog W .any base t v := hval0
  have hW' := hW
  obtain ⟨p, q, hA0, hV, rfl, hfz, hnd⟩ := hW
  have hA : DataW.TrodAll enc Try.prog W 0 (fun _ => true) true Try.f12.params.toList args.toList ds p := hA0
  rw [Try.params12] at hA hval
  obtain ⟨v0, vs0, d0, ds0, p0, q0, hargs, rfl, rfl, h0, r0⟩ := trodAll_cons hA
  obtain ⟨rfl, rfl, rfl⟩ := trodAll_nil r0
  obtain rfl : args = #[v0] := by cases args; simp_all
  obtain ⟨rfl, rfl⟩ := trodVars_none hV
  have k0 := h0
  have lt0 : ∀ x ∈ p0, x.block < W.heap.size := by obtain ⟨m, hm⟩ := k0; exact DataW.trod_lt m _ _ _ hm
  obtain ⟨a0, len0, cap0, rfl⟩ := okWide_slice Try.underlying24 (hval 0 24 v0 rfl rfl)
  obtain ⟨z0, w0⟩ : ∃ zs, IsRow .u8 W a0 len0 cap0 zs := by
    obtain ⟨fuel, hf⟩ := h0
    rcases open_ints Try.underlying24 Try.underlying5 (by kernel_rfl) hf with ⟨hcs, _⟩ | ⟨x, l, c, zs, hcs, _, hl, hm, hz, _, hcell, hwz⟩
    · simp [Value.cells] at hcs
      obtain ⟨rfl, rfl, rfl⟩ := hcs
      exact ⟨[], .inl ⟨rfl, rfl, rfl, rfl⟩⟩
    · simp [Value.cells] at hcs
      obtain ⟨rfl, rfl, rfl⟩ := hcs
      exact ⟨zs, .inr ⟨_, rfl, hl, hm, by simpa using hz, hcell, hwz, isRow_lt hcell⟩⟩
  clear hA0 hval0
  refine (walk W a0 len0 cap0 z0 w0).mono fun e W' ⟨he, bel⟩ => ?_
  subst he
  exact ⟨_, rfl, _, _, _, [], _, [], hW', trodAll_mk1 (shut_bool Try.underlying4 _), (trodAll_cons_mk (Below.trod laidOut (by kernel_rfl) (of_decide_eq_true (by kernel_rfl)) k0 bel lt0) trodAll_mk0), rfl, bel.frame _, fun h => by cases h⟩
end fnMulFractions

theorem fnMulFractions_holds : Rows.FnMulFractionsSaid :=
  OpenClaim.holds_of_wide 12 Try.f12 rfl rfl rfl rfl rfl rfl rfl ⟨rfl, rfl, rfl, rfl, rfl⟩ rfl rfl rfl rfl rfl (by kernel_rfl) Try.func12 (by kernel_rfl)
    (of_decide_eq_true (by kernel_rfl)) (by unfold Func.isWrapper; first | (rw [if_pos (by decide +kernel)]; kernel_rfl) | (rw [if_neg (by decide +kernel)]; exact ⟨rfl, rfl⟩))
    (fun os started H enc _ => fnMulFractions.lifted os started H enc)
#print axioms fnMulFractions_holds

end Go.Proofs.Ytlcmpcjimmdcfaa

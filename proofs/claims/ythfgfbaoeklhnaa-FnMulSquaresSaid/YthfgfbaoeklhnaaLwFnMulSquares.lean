/- Weights are multiplied: SquareWeight of the product is the product of both, for small ones; and the table with 1, 0, 0 and 1 changes nothing. No condition. -/
import Derived.Test.YthfgfbaoeklhnaaDrawSq3
import Derived.Test.YthfgfbaoeklhnaaAlive
namespace Go.Proofs.Ythfgfbaoeklhnaa
open Go.ChangeShapes Go.WideShapes Go.ChangeAt Go.RowKit

theorem step_true {s x : Sq} {p q r t : Int} (h : Sq.step s x = (⟨p, q, r, t⟩, true)) : s.ok = true ∧ x.ok = true ∧ Sq.ok ⟨p, q, r, t⟩ = true ∧ s.mul x = ⟨p, q, r, t⟩ := by
  unfold Sq.step at h
  split at h
  · rename_i hc
    simp only [Prod.mk.injEq, and_true] at h
    exact ⟨hc.1, hc.2.1, h ▸ hc.2.2, h⟩
  · simp at h
theorem step_false {s x : Sq} {p q r t : Int} (h : Sq.step s x = (⟨p, q, r, t⟩, false)) : p = 0 ∧ q = 0 ∧ r = 0 ∧ t = 0 := by
  unfold Sq.step at h
  split at h
  · simp at h
  · simp only [Prod.mk.injEq, Sq.zero, Sq.mk.injEq, and_true] at h
    omega
theorem step_one {a b c d : Int} (h : Sq.ok ⟨a, b, c, d⟩ = true) : Sq.step ⟨a, b, c, d⟩ ⟨1, 0, 0, 1⟩ = (⟨a, b, c, d⟩, true) := by
  have e : Sq.mul ⟨a, b, c, d⟩ ⟨1, 0, 0, 1⟩ = ⟨a, b, c, d⟩ := by simp [Sq.mul]
  unfold Sq.step
  rw [e, if_pos ⟨h, rfl, h⟩]
theorem weight_mul {a b c d e f g h p q r t : Int} (hs : Sq.step ⟨a, b, c, d⟩ ⟨e, f, g, h⟩ = (⟨p, q, r, t⟩, true)) : Sq.weight ⟨p, q, r, t⟩ = Sq.weight ⟨a, b, c, d⟩ * Sq.weight ⟨e, f, g, h⟩ := by
  obtain ⟨h1, h2, h3, h4⟩ := step_true hs
  unfold Sq.weight
  rw [if_pos h1, if_pos h2, if_pos h3]
  simp only [Sq.mul, Sq.mk.injEq] at h4
  obtain ⟨rfl, rfl, rfl, rfl⟩ := h4
  dsimp only
  grind
theorem weight_bd (a b c d : Int) : -2000000000000000000 ≤ Sq.weight ⟨a, b, c, d⟩ ∧ Sq.weight ⟨a, b, c, d⟩ ≤ 2000000000000000000 := by
  unfold Sq.weight
  split
  · rename_i h
    obtain ⟨ha, hb, hc, hd⟩ := Sq.ok_mk h
    have p1 := prod_bd ha hd
    have p2 := prod_bd hb hc
    dsimp only
    omega
  · omega
set_option maxHeartbeats 4000000 in
theorem fnMulSquares.walk (w : World) (a : Option Addr) (len cap : Nat) (zs : List Int) (hrow : IsRow .u8 w a len cap zs) :
    Calls Try.prog 13 #[.slice a len cap] w fun e w' => e = .returned (.bool true) ∧ Below w.heap.size w w' := by
  obtain ⟨hl1, hl2, -⟩ := code_of_row hrow
  have hm : (len : Int) ≤ 9223372036854775807 := by unfold maxLen at hl2; omega
  by_cases hbig : (1048576 : Int) < (len : Int)
  · clear hrow hl1 hl2
    go_enter Try.func13, Try.ntmps13
    go_wp2
    go_ret
    exact ⟨rfl, Below.refl _ _⟩
  · go_enter Try.func13, Try.ntmps13
    go_wp2_with fail
    refine (drawmulsquares_any hrow).mono ?_
    rintro e w1 ⟨a1, b1, c1, d1, e1, f1, g1, h1, rfl, hb⟩
    have HB := Lib.hid hb
    clear hb hrow hl1 hl2
    go_wp2_with fail
    refine (mul_impl _ _ _ _ _ _ _ _ _).mono ?_
    rintro e w2 ⟨p, q, r, t, o, rfl, hst, hb⟩
    have HS := Lib.hid hst
    have ba := ((Blk.new w1 _ _).alloc _).below hb (by simp; omega)
    have bb := (Blk.new (w1.alloc _) _ _).below hb (by simp)
    rw [World.size_alloc] at bb
    obtain ⟨ka0, ka1, ka2, ka3, -, -, -, -, la⟩ := blk4 ba
    obtain ⟨kb0, kb1, kb2, kb3, -, -, -, -, lb⟩ := blk4 bb
    have Ba := Lib.hid ba
    have Bb := Lib.hid bb
    (repeat (replace hb := unalloc hb))
    have HB := Lib.hid (HB.out.trans (hb.mono HB.out.size))
    clear hb ba bb hst
    · skip
      go_wp2_with fail
      refine (mul_spec _ _ _ _ _ _ _ _ _).mono ?_
      rintro e w3 ⟨p2, q2, r2, t2, o2, rfl, hst, hb⟩
      have e12 := HS.out.symm.trans hst; simp only [Prod.mk.injEq, Sq.mk.injEq] at e12; obtain ⟨⟨rfl, rfl, rfl, rfl⟩, rfl⟩ := e12; clear hst; (repeat (replace hb := undrew hb)); have bx := (Blk.new _ _ _).below hb (by simp); have Bx := Lib.hid bx; obtain ⟨kx0, kx1, kx2, kx3, -, -, -, -, lx⟩ := blk4 bx; clear bx; (repeat (replace hb := unalloc hb)); have ba := Ba.out.below hb Ba.out.lt; obtain ⟨ka0, ka1, ka2, ka3, -, -, -, -, la⟩ := blk4 ba; have Ba := Lib.hid ba; clear ba; have bb := Bb.out.below hb Bb.out.lt; obtain ⟨kb0, kb1, kb2, kb3, -, -, -, -, lb⟩ := blk4 bb; have Bb := Lib.hid bb; clear bb; have HB := Lib.hid (HB.out.trans (hb.mono HB.out.size)); clear hb
      cases o
      · obtain ⟨rfl, rfl, rfl, rfl⟩ := step_false HS.out
        go_wp2_with (first | (go_at_call 32; refine (alive_any _).mono ?_; rintro e w' ⟨rfl, rfl⟩))
        go_ret
        have hb := HB.out
        have := hb.size
        exact ⟨rfl, by go_grown⟩
      · obtain ⟨s1, s2, s3, -⟩ := step_true HS.out
        have hw := weight_mul HS.out
        have hd := weight_bd p q r t
        rw [hw] at hd
        obtain ⟨u1, u2⟩ := weight_bd a1 b1 c1 d1
        obtain ⟨v1, v2⟩ := weight_bd e1 f1 g1 h1
        obtain ⟨w1', w2'⟩ := hd
        have H1 := Lib.hid (step_one s1)
        generalize hu : Sq.weight ⟨a1, b1, c1, d1⟩ = u at hw u1 u2 w1' w2'
        generalize hv : Sq.weight ⟨e1, f1, g1, h1⟩ = v at hw v1 v2 w1' w2'
        clear s1 s2
        · skip
          go_wp2_with fail
          refine (mul_impl _ _ _ _ _ _ _ _ _).mono ?_
          rintro e w4 ⟨p3, q3, r3, t3, o3, rfl, hst, hb⟩
          have e12 := H1.out.symm.trans hst; simp only [Prod.mk.injEq, Sq.mk.injEq] at e12; obtain ⟨⟨rfl, rfl, rfl, rfl⟩, rfl⟩ := e12; clear hst; (repeat (replace hb := undrew hb)); (repeat (replace hb := unalloc hb)); have ba := Ba.out.below hb Ba.out.lt; obtain ⟨ka0, ka1, ka2, ka3, -, -, -, -, la⟩ := blk4 ba; have Ba := Lib.hid ba; clear ba; have bb := Bb.out.below hb Bb.out.lt; obtain ⟨kb0, kb1, kb2, kb3, -, -, -, -, lb⟩ := blk4 bb; have Bb := Lib.hid bb; clear bb; have bx := Bx.out.below hb Bx.out.lt; obtain ⟨kx0, kx1, kx2, kx3, -, -, -, -, lx⟩ := blk4 bx; have Bx := Lib.hid bx; clear bx; have HB := Lib.hid (HB.out.trans (hb.mono HB.out.size)); clear hb
          go_wp2_with fail
          refine (weight_impl _ _ _ _ _).mono ?_
          rintro e w5 ⟨rfl, hb⟩
          (repeat (replace hb := undrew hb)); have bs := (Blk.new _ _ _).below hb (by simp); have Bs := Lib.hid bs; obtain ⟨ks0, ks1, ks2, ks3, -, -, -, -, ls⟩ := blk4 bs; clear bs; (repeat (replace hb := unalloc hb)); have ba := Ba.out.below hb Ba.out.lt; obtain ⟨ka0, ka1, ka2, ka3, -, -, -, -, la⟩ := blk4 ba; have Ba := Lib.hid ba; clear ba; have bb := Bb.out.below hb Bb.out.lt; obtain ⟨kb0, kb1, kb2, kb3, -, -, -, -, lb⟩ := blk4 bb; have Bb := Lib.hid bb; clear bb; have bx := Bx.out.below hb Bx.out.lt; obtain ⟨kx0, kx1, kx2, kx3, -, -, -, -, lx⟩ := blk4 bx; have Bx := Lib.hid bx; clear bx; have HB := Lib.hid (HB.out.trans (hb.mono HB.out.size)); clear hb
          go_wp2_with fail
          refine (weight_impl _ _ _ _ _).mono ?_
          rintro e w6 ⟨rfl, hb⟩
          (repeat (replace hb := undrew hb)); (repeat (replace hb := unalloc hb)); have ba := Ba.out.below hb Ba.out.lt; obtain ⟨ka0, ka1, ka2, ka3, -, -, -, -, la⟩ := blk4 ba; have Ba := Lib.hid ba; clear ba; have bb := Bb.out.below hb Bb.out.lt; obtain ⟨kb0, kb1, kb2, kb3, -, -, -, -, lb⟩ := blk4 bb; have Bb := Lib.hid bb; clear bb; have bx := Bx.out.below hb Bx.out.lt; obtain ⟨kx0, kx1, kx2, kx3, -, -, -, -, lx⟩ := blk4 bx; have Bx := Lib.hid bx; clear bx; have bs := Bs.out.below hb Bs.out.lt; obtain ⟨ks0, ks1, ks2, ks3, -, -, -, -, ls⟩ := blk4 bs; have Bs := Lib.hid bs; clear bs; have HB := Lib.hid (HB.out.trans (hb.mono HB.out.size)); clear hb
          go_wp2_with (first | (go_at_call 19; refine (sqv_impl _ _ _ _ _).mono ?_; rintro e w' ⟨rfl, rfl⟩) | (go_at_call 17; refine (sqv_spec _ _ _ _ _).mono ?_; rintro e w' ⟨rfl, rfl⟩) | (go_at_call 32; refine (alive_any _).mono ?_; rintro e w' ⟨rfl, rfl⟩) | (go_at_call 23; refine (weight_impl _ _ _ _ _).mono ?_; rintro e w7 ⟨rfl, hb⟩; (repeat (replace hb := unalloc hb)); have HB := Lib.hid (HB.out.trans (hb.mono HB.out.size)); clear hb))
          all_goals (go_ret; have hb := HB.out; have := hb.size; refine ⟨ret_bool ?_, by go_grown⟩; first | rfl | (simp; done) | (exfalso; omega) | (simp; omega))

/-! THE ROW's STEP of FnMulSquares: from the contract of the law's walk to the given statement. -/
namespace fnMulSquares
set_option maxRecDepth 100000 in
theorem lifted (os : Os) (started : os.Started) (H : Type) (enc : TypeId × Value → H) :
    ReturnsInHanded {} Try.checked os 13 .any (Rows.fnMulSquaresSpec.pre6 enc Try.prog Try.f13 Rows.fnMulSquaresRow.domain false) (Rows.fnMulSquaresSpec.post enc Try.prog Try.f13 false true false false) := by
  refine returnsInHanded_of_change (C := Try.checked) own started (by kernel_rfl) Try.func13
    (ChangeSpec.witness6 (enc := enc) (C := Try.checked) false ⟨#[], #[.slice none 0 0], []⟩ 8 (by kernel_rfl) (by kernel_rfl) (by kernel_rfl) (by kernel_rfl)) ?_
  intro W base args ds gs before hval0 hW hcnd _
  have hval : ∀ (j : Nat) t v, Try.f13.params[j]? = some t → args[j]? = some v → Value.okWide Try.prog W .any base t v := hval0
  have hW' := hW
  obtain ⟨p, q, hA0, hV, rfl, hfz, hnd⟩ := hW
  have hA : DataW.TrodAll enc Try.prog W 0 (fun _ => true) true Try.f13.params.toList args.toList ds p := hA0
  rw [Try.params13] at hA hval
  obtain ⟨v0, vs0, d0, ds0, p0, q0, hargs, rfl, rfl, h0, r0⟩ := trodAll_cons hA
  obtain ⟨rfl, rfl, rfl⟩ := trodAll_nil r0
  obtain rfl : args = #[v0] := by cases args; simp_all
  obtain ⟨rfl, rfl⟩ := trodVars_none hV
  have k0 := h0
  have lt0 : ∀ x ∈ p0, x.block < W.heap.size := by obtain ⟨m, hm⟩ := k0; exact DataW.trod_lt m _ _ _ hm
  obtain ⟨a0, len0, cap0, rfl⟩ := okWide_slice Try.underlying39 (hval 0 39 v0 rfl rfl)
  obtain ⟨z0, w0⟩ : ∃ zs, IsRow .u8 W a0 len0 cap0 zs := by
    obtain ⟨fuel, hf⟩ := h0
    rcases open_ints Try.underlying39 Try.underlying5 (by kernel_rfl) hf with ⟨hcs, _⟩ | ⟨x, l, c, zs, hcs, _, hl, hm, hz, _, hcell, hwz⟩
    · simp [Value.cells] at hcs
      obtain ⟨rfl, rfl, rfl⟩ := hcs
      exact ⟨[], .inl ⟨rfl, rfl, rfl, rfl⟩⟩
    · simp [Value.cells] at hcs
      obtain ⟨rfl, rfl, rfl⟩ := hcs
      exact ⟨zs, .inr ⟨_, rfl, hl, hm, by simpa using hz, hcell, hwz, isRow_lt hcell⟩⟩
  clear hA0 hval0
  refine (walk W a0 len0 cap0 z0 w0).mono fun e W' ⟨he, bel⟩ => ?_
  subst he
  exact ⟨_, rfl, _, _, _, [], _, [], hW', trodAll_mk1 (shut_bool Try.underlying4 _), (trodAll_cons_mk (Below.trod laidOut (by kernel_rfl) (of_decide_eq_true (by kernel_rfl)) k0 bel lt0) trodAll_mk0), rfl, bel.frame _, fun h => by cases h⟩
end fnMulSquares

theorem fnMulSquares_holds : Rows.FnMulSquaresSaid :=
  OpenClaim.holds_of_wide 13 Try.f13 rfl rfl rfl rfl rfl rfl rfl ⟨rfl, rfl, rfl, rfl, rfl⟩ rfl rfl rfl rfl rfl (by kernel_rfl) Try.func13 (by kernel_rfl)
    (of_decide_eq_true (by kernel_rfl)) (by unfold Func.isWrapper; first | (rw [if_pos (by decide +kernel)]; kernel_rfl) | (rw [if_neg (by decide +kernel)]; exact ⟨rfl, rfl⟩))
    (fun os started H enc _ => fnMulSquares.lifted os started H enc)
#print axioms fnMulSquares_holds

end Go.Proofs.Ythfgfbaoeklhnaa

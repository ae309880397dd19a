/- The program's CompareFractions returns what the reference's returns, for all arguments. No condition. -/
import Derived.Test.YtlcmpcjimmdcfaaFrCmp
namespace Go.Proofs.Ytlcmpcjimmdcfaa
open Go.ChangeShapes Go.WideShapes Go.ChangeAt Go.RowKit

theorem tofr_any (a b : Int) (w : World) : Calls Try.prog 20 #[.agg #[.int .i64 a, .int .i64 b]] w fun e w' => e = .returned (.agg #[.int .i64 a, .int .i64 b]) ∧ Below w.heap.size w w' := by
  go_enter Try.func20, Try.ntmps20
  go_wp2
  go_returns
  exact ⟨rfl, by go_grown⟩
def FrCut (w : World) (a b c d : Int) (s5 s6 : Value) (wx : World) : Prop :=
  s5 = .int .i64 (frCmp a b c d).1 ∧ s6 = .bool (frCmp a b c d).2 ∧ Blk wx w.heap.size 30 #[.int .i64 a, .int .i64 b] ∧ Blk wx (w.heap.size + 1) 30 #[.int .i64 c, .int .i64 d] ∧ Below w.heap.size w wx
attribute [local go_sem ↓] Go.wp_at_zero Go.wp_at_succ
set_option maxHeartbeats 40000000 in
theorem fnExactCompareFractions.walk (a b : Int) (_ : (Lit.int .i64 a).wf = true) (_ : (Lit.int .i64 b).wf = true) (c d : Int) (_ : (Lit.int .i64 c).wf = true) (_ : (Lit.int .i64 d).wf = true) (w : World) :
    Calls Try.prog 13 #[.agg #[.int .i64 a, .int .i64 b], .agg #[.int .i64 c, .int .i64 d]] w fun e w' => e = .returned (.bool true) ∧ Below w.heap.size w w' := by
  go_enter Try.func13, Try.ntmps13
  go_wp2_with fail
  have b0 : Blk ((w.alloc (.cells #[.int .i64 a, .int .i64 b] 30)).alloc (.cells #[.int .i64 c, .int .i64 d] 30)) w.heap.size 30 #[.int .i64 a, .int .i64 b] := (Blk.new w _ _).alloc _
  have b1 : Blk ((w.alloc (.cells #[.int .i64 a, .int .i64 b] 30)).alloc (.cells #[.int .i64 c, .int .i64 d] 30)) (w.heap.size + 1) 30 #[.int .i64 c, .int .i64 d] := Blk.newAt (by simp)
  have bw : Below w.heap.size w ((w.alloc (.cells #[.int .i64 a, .int .i64 b] 30)).alloc (.cells #[.int .i64 c, .int .i64 d] 30)) := by go_grown
  generalize (w.alloc (.cells #[.int .i64 a, .int .i64 b] 30)).alloc (.cells #[.int .i64 c, .int .i64 d] 30) = W0 at *
  obtain ⟨c00, c01, -, -, l0⟩ := blk2 b0
  obtain ⟨c10, c11, -, -, l1⟩ := blk2 b1
  have B0 := Lib.hid b0
  have B1 := Lib.hid b1
  have BW := Lib.hid bw
  clear b0 b1 bw
  go_cut [5, 6] (fun s5 s6 wx => FrCut w a b c d s5 s6 wx)
  case first =>
    go_region_held3 (fun W' => W'.cell? ⟨w.heap.size, 0, none⟩ = some (.int .i64 a) ∧ W'.cell? ⟨w.heap.size, 1, none⟩ = some (.int .i64 b) ∧ W'.cell? ⟨w.heap.size + 1, 0, none⟩ = some (.int .i64 c) ∧ W'.cell? ⟨w.heap.size + 1, 1, none⟩ = some (.int .i64 d)) (first | exact ⟨c00, c01, c10, c11⟩ | go_keep)
      (first | (go_at_call 20; refine (tofr_any _ _ _).mono ?_; rintro e w' ⟨rfl, hb⟩; (repeat (replace hb := undrew hb)); (try (have bn := BN.out.below hb BN.out.lt; have BN := Lib.hid bn; obtain ⟨d0, d1, e0, e1, ln⟩ := blk2 bn; clear bn)); (try (have bn := (Blk.new _ _ _).below hb (by simp); (try have hXB := BB.out.lt); have BN := Lib.hid bn; obtain ⟨d0, d1, e0, e1, ln⟩ := blk2 bn; clear bn)); (repeat (replace hb := unalloc hb)); (try (have bb := BB.out.below hb BB.out.lt; have BB := Lib.hid bb; clear bb)); have hn0 := B0.out.lt; have hn1 := B1.out.lt; have on0 := Nat.ne_of_lt hn0; have on0' := Nat.ne_of_gt hn0; have on1 := Nat.ne_of_lt hn1; have on1' := Nat.ne_of_gt hn1; have b0 := B0.out.below hb B0.out.lt; have b1 := B1.out.below hb B1.out.lt; have bw := BW.out.trans (hb.mono BW.out.size); obtain ⟨c00, c01, -, -, l0⟩ := blk2 b0; obtain ⟨c10, c11, -, -, l1⟩ := blk2 b1; have n0 := Nat.ne_of_lt l0; have n0' := Nat.ne_of_gt l0; have n1 := Nat.ne_of_lt l1; have n1' := Nat.ne_of_gt l1; have B0 := Lib.hid b0; have B1 := Lib.hid b1; have BW := Lib.hid bw; clear b0 b1 bw hb) | (go_at_call 33; refine (frcmp_spec _ _ _ _ _).mono ?_; rintro e w1 ⟨rfl, hb⟩; (repeat (replace hb := undrew hb)); (try (have bn := BN.out.below hb BN.out.lt; have BN := Lib.hid bn; obtain ⟨d0, d1, e0, e1, ln⟩ := blk2 bn; clear bn)); (try (have bn := (Blk.new _ _ _).below hb (by simp); (try have hXB := BB.out.lt); have BN := Lib.hid bn; obtain ⟨d0, d1, e0, e1, ln⟩ := blk2 bn; clear bn)); (repeat (replace hb := unalloc hb)); (try (have bb := BB.out.below hb BB.out.lt; have BB := Lib.hid bb; clear bb)); have hn0 := B0.out.lt; have hn1 := B1.out.lt; have on0 := Nat.ne_of_lt hn0; have on0' := Nat.ne_of_gt hn0; have on1 := Nat.ne_of_lt hn1; have on1' := Nat.ne_of_gt hn1; have b0 := B0.out.below hb B0.out.lt; have b1 := B1.out.below hb B1.out.lt; have bw := BW.out.trans (hb.mono BW.out.size); obtain ⟨c00, c01, -, -, l0⟩ := blk2 b0; obtain ⟨c10, c11, -, -, l1⟩ := blk2 b1; have n0 := Nat.ne_of_lt l0; have n0' := Nat.ne_of_gt l0; have n1 := Nat.ne_of_lt l1; have n1' := Nat.ne_of_gt l1; have B0 := Lib.hid b0; have B1 := Lib.hid b1; have BW := Lib.hid bw; clear b0 b1 bw hb))
    all_goals go_wp2_with fail
    all_goals go_meet
    all_goals exact ⟨rfl, rfl, B0.out, B1.out, BW.out⟩
  case rest =>
    obtain ⟨rfl, rfl, b0, b1, bw⟩ := hcut
    obtain ⟨c00, c01, -, -, l0⟩ := blk2 b0
    obtain ⟨c10, c11, -, -, l1⟩ := blk2 b1
    have B0 := Lib.hid b0
    have B1 := Lib.hid b1
    have BW := Lib.hid bw
    clear b0 b1 bw
    go_wp2_with fail
    go_cut [7, 8] (fun s5 s6 wx => FrCut w a b c d s5 s6 wx)
    case first =>
      go_region_held3 (fun W' => W'.cell? ⟨w.heap.size, 0, none⟩ = some (.int .i64 a) ∧ W'.cell? ⟨w.heap.size, 1, none⟩ = some (.int .i64 b) ∧ W'.cell? ⟨w.heap.size + 1, 0, none⟩ = some (.int .i64 c) ∧ W'.cell? ⟨w.heap.size + 1, 1, none⟩ = some (.int .i64 d)) (first | exact ⟨c00, c01, c10, c11⟩ | go_keep)
      (first | (go_at_call 20; refine (tofr_any _ _ _).mono ?_; rintro e w' ⟨rfl, hb⟩; (repeat (replace hb := undrew hb)); (try (have bn := BN.out.below hb BN.out.lt; have BN := Lib.hid bn; obtain ⟨d0, d1, e0, e1, ln⟩ := blk2 bn; clear bn)); (try (have bn := (Blk.new _ _ _).below hb (by simp); (try have hXB := BB.out.lt); have BN := Lib.hid bn; obtain ⟨d0, d1, e0, e1, ln⟩ := blk2 bn; clear bn)); (repeat (replace hb := unalloc hb)); (try (have bb := BB.out.below hb BB.out.lt; have BB := Lib.hid bb; clear bb)); have hn0 := B0.out.lt; have hn1 := B1.out.lt; have on0 := Nat.ne_of_lt hn0; have on0' := Nat.ne_of_gt hn0; have on1 := Nat.ne_of_lt hn1; have on1' := Nat.ne_of_gt hn1; have b0 := B0.out.below hb B0.out.lt; have b1 := B1.out.below hb B1.out.lt; have bw := BW.out.trans (hb.mono BW.out.size); obtain ⟨c00, c01, -, -, l0⟩ := blk2 b0; obtain ⟨c10, c11, -, -, l1⟩ := blk2 b1; have n0 := Nat.ne_of_lt l0; have n0' := Nat.ne_of_gt l0; have n1 := Nat.ne_of_lt l1; have n1' := Nat.ne_of_gt l1; have B0 := Lib.hid b0; have B1 := Lib.hid b1; have BW := Lib.hid bw; clear b0 b1 bw hb) | (go_at_call 34; refine (frcmp_impl _ _ _ _ _).mono ?_; rintro e w1 ⟨rfl, hb⟩; (repeat (replace hb := undrew hb)); (try (have bn := BN.out.below hb BN.out.lt; have BN := Lib.hid bn; obtain ⟨d0, d1, e0, e1, ln⟩ := blk2 bn; clear bn)); (try (have bn := (Blk.new _ _ _).below hb (by simp); (try have hXB := BB.out.lt); have BN := Lib.hid bn; obtain ⟨d0, d1, e0, e1, ln⟩ := blk2 bn; clear bn)); (repeat (replace hb := unalloc hb)); (try (have bb := BB.out.below hb BB.out.lt; have BB := Lib.hid bb; clear bb)); have hn0 := B0.out.lt; have hn1 := B1.out.lt; have on0 := Nat.ne_of_lt hn0; have on0' := Nat.ne_of_gt hn0; have on1 := Nat.ne_of_lt hn1; have on1' := Nat.ne_of_gt hn1; have b0 := B0.out.below hb B0.out.lt; have b1 := B1.out.below hb B1.out.lt; have bw := BW.out.trans (hb.mono BW.out.size); obtain ⟨c00, c01, -, -, l0⟩ := blk2 b0; obtain ⟨c10, c11, -, -, l1⟩ := blk2 b1; have n0 := Nat.ne_of_lt l0; have n0' := Nat.ne_of_gt l0; have n1 := Nat.ne_of_lt l1; have n1' := Nat.ne_of_gt l1; have B0 := Lib.hid b0; have B1 := Lib.hid b1; have BW := Lib.hid bw; clear b0 b1 bw hb))
      all_goals go_wp2_with fail
      all_goals go_meet
      all_goals exact ⟨rfl, rfl, B0.out, B1.out, BW.out⟩
    case rest =>
      obtain ⟨rfl, rfl, -, -, bw⟩ := hcut
      have BW := Lib.hid bw
      clear bw
      obtain ⟨o, ho⟩ : ∃ o, (frCmp a b c d).2 = o := ⟨_, rfl⟩
      rw [ho]
      go_wp2_with fail
      go_ret
      exact ⟨ret_bool (by cases o <;> first | rfl | simp), BW.out⟩

/-! THE ROW's STEP of FnExactCompareFractions: from the contract of the law's walk to the given statement. -/
namespace fnExactCompareFractions
set_option maxRecDepth 100000 in
theorem lifted (os : Os) (started : os.Started) (H : Type) (enc : TypeId × Value → H) :
    ReturnsInHanded {} Try.checked os 13 .any (Rows.fnExactCompareFractionsSpec.pre6 enc Try.prog Try.f13 Rows.fnExactCompareFractionsRow.domain false) (Rows.fnExactCompareFractionsSpec.post enc Try.prog Try.f13 false true false false) := by
  refine returnsInHanded_of_change (C := Try.checked) own started (by kernel_rfl) Try.func13
    (ChangeSpec.witness6 (enc := enc) (C := Try.checked) false ⟨#[], #[.agg #[.int .i64 0, .int .i64 0], .agg #[.int .i64 0, .int .i64 0]], []⟩ 8 (by kernel_rfl) (by kernel_rfl) (by kernel_rfl) (by kernel_rfl)) ?_
  intro W base args ds gs before hval0 hW hcnd _
  have hval : ∀ (j : Nat) t v, Try.f13.params[j]? = some t → args[j]? = some v → Value.okWide Try.prog W .any base t v := hval0
  have hW' := hW
  obtain ⟨p, q, hA0, hV, rfl, hfz, hnd⟩ := hW
  have hA : DataW.TrodAll enc Try.prog W 0 (fun _ => true) true Try.f13.params.toList args.toList ds p := hA0
  rw [Try.params13] at hA hval
  obtain ⟨v0, vs0, d0, ds0, p0, q0, hargs, rfl, rfl, h0, r0⟩ := trodAll_cons hA
  obtain ⟨v1, vs1, d1, ds1, p1, q1, rfl, rfl, rfl, h1, r1⟩ := trodAll_cons r0
  obtain ⟨rfl, rfl, rfl⟩ := trodAll_nil r1
  obtain rfl : args = #[v0, v1] := by cases args; simp_all
  obtain ⟨rfl, rfl⟩ := trodVars_none hV
  have k0 := h0
  have lt0 : ∀ x ∈ p0, x.block < W.heap.size := by obtain ⟨m, hm⟩ := k0; exact DataW.trod_lt m _ _ _ hm
  obtain ⟨c0_0, c0_1, y0_0, y0_1, m0, rfl, -, -, hy0_0, hy0_1⟩ := Go.Joins.open_agg2 Try.underlying30 (by kernel_rfl) (by kernel_rfl) (hval 0 30 v0 rfl rfl) h0
  obtain ⟨a0_0, e0_0, -, w0_0⟩ := DataW.trod_int Try.underlying3 hy0_0
  simp only [List.cons.injEq, and_true] at e0_0
  subst e0_0
  obtain ⟨a0_1, e0_1, -, w0_1⟩ := DataW.trod_int Try.underlying3 hy0_1
  simp only [List.cons.injEq, and_true] at e0_1
  subst e0_1
  have k1 := h1
  have lt1 : ∀ x ∈ p1, x.block < W.heap.size := by obtain ⟨m, hm⟩ := k1; exact DataW.trod_lt m _ _ _ hm
  obtain ⟨c1_0, c1_1, y1_0, y1_1, m1, rfl, -, -, hy1_0, hy1_1⟩ := Go.Joins.open_agg2 Try.underlying30 (by kernel_rfl) (by kernel_rfl) (hval 1 30 v1 rfl rfl) h1
  obtain ⟨a1_0, e1_0, -, w1_0⟩ := DataW.trod_int Try.underlying3 hy1_0
  simp only [List.cons.injEq, and_true] at e1_0
  subst e1_0
  obtain ⟨a1_1, e1_1, -, w1_1⟩ := DataW.trod_int Try.underlying3 hy1_1
  simp only [List.cons.injEq, and_true] at e1_1
  subst e1_1
  clear hA0 hval0
  refine (walk a0_0 a0_1 w0_0 w0_1 a1_0 a1_1 w1_0 w1_1 W).mono fun e W' ⟨he, bel⟩ => ?_
  subst he
  exact ⟨_, rfl, _, _, _, [], _, [], hW', trodAll_mk1 (shut_bool Try.underlying4 _), (trodAll_cons_mk (Below.trod laidOut (by kernel_rfl) (of_decide_eq_true (by kernel_rfl)) k0 bel lt0) (trodAll_cons_mk (Below.trod laidOut (by kernel_rfl) (of_decide_eq_true (by kernel_rfl)) k1 bel lt1) trodAll_mk0)), rfl, bel.frame _, fun h => by cases h⟩
end fnExactCompareFractions

theorem fnExactCompareFractions_holds : Rows.FnExactCompareFractionsSaid :=
  OpenClaim.holds_of_wide 13 Try.f13 rfl rfl rfl rfl rfl rfl rfl ⟨rfl, rfl, rfl, rfl, rfl⟩ rfl rfl rfl rfl rfl (by kernel_rfl) Try.func13 (by kernel_rfl)
    (of_decide_eq_true (by kernel_rfl)) (by unfold Func.isWrapper; first | (rw [if_pos (by decide +kernel)]; kernel_rfl) | (rw [if_neg (by decide +kernel)]; exact ⟨rfl, rfl⟩))
    (fun os started H enc _ => fnExactCompareFractions.lifted os started H enc)
#print axioms fnExactCompareFractions_holds

end Go.Proofs.Ytlcmpcjimmdcfaa

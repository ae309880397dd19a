/- The program's SpanProves returns what the reference's returns, for all arguments. No condition. -/
import Derived.Test.YtpecffijmamddaaSpan2
namespace Go.Proofs.Ytpecffijmamddaa
open Go.ChangeShapes Go.WideShapes Go.ChangeAt Go.RowKit

set_option maxHeartbeats 1000000 in
theorem tosp_any (a b : Int) (w : World) : Calls Try.prog 17 #[.agg #[.int .i64 a, .int .i64 b]] w fun e w' => e = .returned (.agg #[.int .i64 a, .int .i64 b]) ∧ Below w.heap.size w w' := by
  go_enter Try.func17, Try.ntmps17
  go_wp2_with (first | go_in)
  refine bodyPost_ret (v := .agg #[.int .i64 a, .int .i64 b]) (by simp [results, Try.results17, go_sem]) rfl ?_
  exact ⟨rfl, (by repeat' (first | (with_reducible exact Below.refl _ _) | (with_reducible assumption) | (with_reducible refine below_drewN ?_ _) | (with_reducible refine Below.drew ?_) | (with_reducible refine bl_alloc ?_ _) | (with_reducible refine bl_set ?_ ?_ _) | go_size | omega))⟩
set_option maxHeartbeats 1000000 in
theorem tofm_any (a b : Int) (w : World) : Calls Try.prog 18 #[.agg #[.int .i64 a, .int .i64 b]] w fun e w' => e = .returned (.agg #[.int .i64 a, .int .i64 b]) ∧ Below w.heap.size w w' := by
  go_enter Try.func18, Try.ntmps18
  go_wp2_with (first | go_in)
  refine bodyPost_ret (v := .agg #[.int .i64 a, .int .i64 b]) (by simp [results, Try.results18, go_sem]) rfl ?_
  exact ⟨rfl, (by repeat' (first | (with_reducible exact Below.refl _ _) | (with_reducible assumption) | (with_reducible refine below_drewN ?_ _) | (with_reducible refine Below.drew ?_) | (with_reducible refine bl_alloc ?_ _) | (with_reducible refine bl_set ?_ ?_ _) | go_size | omega))⟩
structure InSF (w : World) (s f : Nat) (ts tf : TypeId) (a b p q : Int) (w' : World) : Prop where
  bel : Below w.heap.size w w'
  s : Blk w' s ts #[.int .i64 a, .int .i64 b]
  f : Blk w' f tf #[.int .i64 p, .int .i64 q]
theorem InSF.below {w w1 w2 : World} {s f : Nat} {ts tf : TypeId} {a b p q : Int} (h : InSF w s f ts tf a b p q w1) (hb : Below w1.heap.size w1 w2) : InSF w s f ts tf a b p q w2 :=
  ⟨bl_behind hb h.bel, h.s.below hb h.s.lt, h.f.below hb h.f.lt⟩
set_option maxHeartbeats 4000000 in
theorem fnExactSpanProves.walk (a b : Int) (_ : (Lit.int .i64 a).wf = true) (_ : (Lit.int .i64 b).wf = true) (p q : Int) (_ : (Lit.int .i64 p).wf = true) (_ : (Lit.int .i64 q).wf = true) (n : Int) (_ : (Lit.int .i64 n).wf = true) (w : World) :
    Calls Try.prog 5 #[.agg #[.int .i64 a, .int .i64 b], .agg #[.int .i64 p, .int .i64 q], .int .i64 n] w fun e w' => e = .returned (.bool true) ∧ Below w.heap.size w w' := by
  have hC : InSF w w.heap.size (w.heap.size + 1) 30 32 a b p q { (w.alloc (.cells #[.int .i64 a, .int .i64 b] 30)).alloc (.cells #[.int .i64 p, .int .i64 q] 32) with drawn := ((w.alloc (.cells #[.int .i64 a, .int .i64 b] 30)).alloc (.cells #[.int .i64 p, .int .i64 q] 32)).drawn + 1 } :=
    ⟨(((Below.refl _ _).alloc (Nat.le_refl _) _).alloc (by simp) _).drew, ((Blk.new _ _ _).alloc _).drew, (Blk.newAt (by simp)).drew⟩
  go_enter Try.func5, Try.ntmps5
  go_wp2_with fail
  refine wp_region_quietC (C := InSF w w.heap.size (w.heap.size + 1) 30 32 a b p q) (by kernel_rfl) (by kernel_rfl) hC ?_
  repeat
      (refine wpQuiet_step (fun K hK => ?_)
       go_simp
       first
         | (refine hK _ ?_; clear hK K)
         | (apply Exists.intro
            refine ⟨fun w' hw' => ?_, hK _ ?_⟩
            first
              | (obtain ⟨c0, c1, -, -, ls⟩ := blk2 hw'.s; obtain ⟨d0, d1, -, -, lf⟩ := blk2 hw'.f; go_simp; rfl)
              | (first | (go_at_call 17; refine (tosp_any _ _ _).mono ?_; rintro e w2 ⟨rfl, hb⟩; exact ⟨rfl, hw'.below hb⟩) | (go_at_call 18; refine (tofm_any _ _ _).mono ?_; rintro e w2 ⟨rfl, hb⟩; exact ⟨rfl, hw'.below hb⟩) | (go_at_call 16; refine (spp_spec _ _ _ _ _ _).mono ?_; rintro e w2 ⟨rfl, hb⟩; exact ⟨rfl, hw'.below hb⟩))
            clear hK K))
  refine wpQuiet_nil ?_
  intro w1 hw1
  have hC1 : InSF w w.heap.size (w.heap.size + 1) 30 32 a b p q { w1 with drawn := w1.drawn + 1 } := ⟨hw1.bel.drew, hw1.s.drew, hw1.f.drew⟩
  go_wp2_with fail
  refine wp_region_quietC (C := InSF w w.heap.size (w.heap.size + 1) 30 32 a b p q) (by kernel_rfl) (by kernel_rfl) hC1 ?_
  repeat
      (refine wpQuiet_step (fun K hK => ?_)
       go_simp
       first
         | (refine hK _ ?_; clear hK K)
         | (apply Exists.intro
            refine ⟨fun w' hw' => ?_, hK _ ?_⟩
            first
              | (obtain ⟨c0, c1, -, -, ls⟩ := blk2 hw'.s; obtain ⟨d0, d1, -, -, lf⟩ := blk2 hw'.f; go_simp; rfl)
              | (first | (go_at_call 17; refine (tosp_any _ _ _).mono ?_; rintro e w2 ⟨rfl, hb⟩; exact ⟨rfl, hw'.below hb⟩) | (go_at_call 18; refine (tofm_any _ _ _).mono ?_; rintro e w2 ⟨rfl, hb⟩; exact ⟨rfl, hw'.below hb⟩) | (go_at_call 19; refine (spp_impl _ _ _ _ _ _).mono ?_; rintro e w2 ⟨rfl, hb⟩; exact ⟨rfl, hw'.below hb⟩))
            clear hK K))
  refine wpQuiet_nil ?_
  intro w2 hw2
  go_wp2_with fail
  go_ret
  exact ⟨rfl, hw2.bel⟩

/-! THE ROW's STEP of FnExactSpanProves: from the contract of the law's walk to the given statement. -/
namespace fnExactSpanProves
set_option maxRecDepth 100000 in
theorem lifted (os : Os) (started : os.Started) (H : Type) (enc : TypeId × Value → H) :
    ReturnsInHanded {} Try.checked os 5 .any (Rows.fnExactSpanProvesSpec.pre6 enc Try.prog Try.f5 Rows.fnExactSpanProvesRow.domain false) (Rows.fnExactSpanProvesSpec.post enc Try.prog Try.f5 false true false false) := by
  refine returnsInHanded_of_change (C := Try.checked) own started (by kernel_rfl) Try.func5
    (ChangeSpec.witness6 (enc := enc) (C := Try.checked) false ⟨#[], #[.agg #[.int .i64 0, .int .i64 0], .agg #[.int .i64 0, .int .i64 0], .int .i64 0], []⟩ 8 (by kernel_rfl) (by kernel_rfl) (by kernel_rfl) (by kernel_rfl)) ?_
  intro W base args ds gs before hval0 hW hcnd _
  have hval : ∀ (j : Nat) t v, Try.f5.params[j]? = some t → args[j]? = some v → Value.okWide Try.prog W .any base t v := hval0
  have hW' := hW
  obtain ⟨p, q, hA0, hV, rfl, hfz, hnd⟩ := hW
  have hA : DataW.TrodAll enc Try.prog W 0 (fun _ => true) true Try.f5.params.toList args.toList ds p := hA0
  rw [Try.params5] at hA hval
  obtain ⟨v0, vs0, d0, ds0, p0, q0, hargs, rfl, rfl, h0, r0⟩ := trodAll_cons hA
  obtain ⟨v1, vs1, d1, ds1, p1, q1, rfl, rfl, rfl, h1, r1⟩ := trodAll_cons r0
  obtain ⟨v2, vs2, d2, ds2, p2, q2, rfl, rfl, rfl, h2, r2⟩ := trodAll_cons r1
  obtain ⟨rfl, rfl, rfl⟩ := trodAll_nil r2
  obtain rfl : args = #[v0, v1, v2] := by cases args; simp_all
  obtain ⟨rfl, rfl⟩ := trodVars_none hV
  have k0 := h0
  have lt0 : ∀ x ∈ p0, x.block < W.heap.size := by obtain ⟨m, hm⟩ := k0; exact DataW.trod_lt m _ _ _ hm
  obtain ⟨c0_0, c0_1, y0_0, y0_1, m0, rfl, -, -, hy0_0, hy0_1⟩ := Go.Joins.open_agg2 Try.underlying30 (by kernel_rfl) (by kernel_rfl) (hval 0 30 v0 rfl rfl) h0
  obtain ⟨a0_0, e0_0, -, w0_0⟩ := DataW.trod_int Try.underlying3 hy0_0
  simp only [List.cons.injEq, and_true] at e0_0
  subst e0_0
  obtain ⟨a0_1, e0_1, -, w0_1⟩ := DataW.trod_int Try.underlying3 hy0_1
  simp only [List.cons.injEq, and_true] at e0_1
  subst e0_1
  have k1 := h1
  have lt1 : ∀ x ∈ p1, x.block < W.heap.size := by obtain ⟨m, hm⟩ := k1; exact DataW.trod_lt m _ _ _ hm
  obtain ⟨c1_0, c1_1, y1_0, y1_1, m1, rfl, -, -, hy1_0, hy1_1⟩ := Go.Joins.open_agg2 Try.underlying32 (by kernel_rfl) (by kernel_rfl) (hval 1 32 v1 rfl rfl) h1
  obtain ⟨a1_0, e1_0, -, w1_0⟩ := DataW.trod_int Try.underlying3 hy1_0
  simp only [List.cons.injEq, and_true] at e1_0
  subst e1_0
  obtain ⟨a1_1, e1_1, -, w1_1⟩ := DataW.trod_int Try.underlying3 hy1_1
  simp only [List.cons.injEq, and_true] at e1_1
  subst e1_1
  have k2 := h2
  have lt2 : ∀ x ∈ p2, x.block < W.heap.size := by obtain ⟨m, hm⟩ := k2; exact DataW.trod_lt m _ _ _ hm
  obtain ⟨a2, rfl, -, -, w2⟩ := open_int Try.underlying3 (hval 2 3 v2 rfl rfl) h2
  clear hA0 hval0
  refine (walk a0_0 a0_1 w0_0 w0_1 a1_0 a1_1 w1_0 w1_1 a2 w2 W).mono fun e W' ⟨he, bel⟩ => ?_
  subst he
  exact ⟨_, rfl, _, _, _, [], _, [], hW', trodAll_mk1 (shut_bool Try.underlying4 _), (trodAll_cons_mk (Below.trod laidOut (by kernel_rfl) (of_decide_eq_true (by kernel_rfl)) k0 bel lt0) (trodAll_cons_mk (Below.trod laidOut (by kernel_rfl) (of_decide_eq_true (by kernel_rfl)) k1 bel lt1) (trodAll_cons_mk (Below.trod laidOut (by kernel_rfl) (of_decide_eq_true (by kernel_rfl)) k2 bel lt2) trodAll_mk0))), rfl, bel.frame _, fun h => by cases h⟩
end fnExactSpanProves

theorem fnExactSpanProves_holds : Rows.FnExactSpanProvesSaid :=
  OpenClaim.holds_of_wide 5 Try.f5 rfl rfl rfl rfl rfl rfl rfl ⟨rfl, rfl, rfl, rfl, rfl⟩ rfl rfl rfl rfl rfl (by kernel_rfl) Try.func5 (by kernel_rfl)
    (of_decide_eq_true (by kernel_rfl)) (by unfold Func.isWrapper; first | (rw [if_pos (by decide +kernel)]; kernel_rfl) | (rw [if_neg (by decide +kernel)]; exact ⟨rfl, rfl⟩))
    (fun os started H enc _ => fnExactSpanProves.lifted os started H enc)
#print axioms fnExactSpanProves_holds

end Go.Proofs.Ytpecffijmamddaa

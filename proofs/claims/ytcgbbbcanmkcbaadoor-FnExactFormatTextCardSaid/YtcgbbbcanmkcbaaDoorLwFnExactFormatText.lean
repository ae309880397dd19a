/- The program's FormatText returns what the reference's returns, for all arguments. No condition. -/
import Derived.Test.YtcgbbbcanmkcbaaDoorTxt
import Derived.Test.YtcgbbbcanmkcbaaDoorCard
namespace Go.Proofs.YtcgbbbcanmkcbaaDoor
open Go.ChangeShapes Go.WideShapes Go.ChangeAt Go.RowKit

set_option maxHeartbeats 1000000 in
theorem tofmt_any (a b : Int) (w : World) : Calls Tryd.prog 13 #[.agg #[.int .i64 a, .int .i64 b]] w fun e w' => e = .returned (.agg #[.int .i64 a, .int .i64 b]) ∧ Below w.heap.size w w' := by
  go_enter Tryd.func13, Tryd.ntmps13
  go_wp2_with (first | go_in)
  refine bodyPost_ret (v := .agg #[.int .i64 a, .int .i64 b]) (by simp [results, Tryd.results13, go_sem]) rfl ?_
  exact ⟨rfl, (by repeat' (first | (with_reducible exact Below.refl _ _) | (with_reducible assumption) | (with_reducible refine below_drewN ?_ _) | (with_reducible refine Below.drew ?_) | (with_reducible refine bl_alloc ?_ _) | (with_reducible refine bl_set ?_ ?_ _) | go_size | omega))⟩
set_option maxHeartbeats 1000000 in
theorem fnExactFormatText.walk (a b : Int) (_ : (Lit.int .i64 a).wf = true) (_ : (Lit.int .i64 b).wf = true) (w : World) (_ : laidMetH Tryd.prog laidL w) :
    Calls Tryd.prog 3 #[.agg #[.int .i64 a, .int .i64 b]] w fun e w' => e = .returned (.bool true) ∧ Below w.heap.size w w' := by
  have HB := Lib.hid (Below.refl w.heap.size w)
  go_enter Tryd.func3, Tryd.ntmps3
  go_wp2_with fail
  refine (tofmt_any _ _ _).mono ?_
  rintro e w1 ⟨rfl, hb⟩
  (repeat (replace hb := undrew hb)); have bs := (Blk.new _ _ _).below hb (by simp); have Bs := Lib.hid bs; obtain ⟨ks0, ks1, -, -, ls⟩ := blk2 bs; clear bs; (repeat (replace hb := unalloc hb)); have HB := Lib.hid (HB.out.trans (hb.mono HB.out.size)); clear hb
  go_wp2_with fail
  refine (ft_spec _ _ _).mono ?_
  rintro e w2 ⟨rfl, hb⟩
  (repeat (replace hb := undrew hb)); (repeat (replace hb := unalloc hb)); have bs := Bs.out.below hb Bs.out.lt; obtain ⟨ks0, ks1, -, -, ls⟩ := blk2 bs; have Bs := Lib.hid bs; clear bs; have HB := Lib.hid (HB.out.trans (hb.mono HB.out.size)); clear hb
  go_wp2_with fail
  refine (tofmt_any _ _ _).mono ?_
  rintro e w3 ⟨rfl, hb⟩
  (repeat (replace hb := undrew hb)); (repeat (replace hb := unalloc hb)); have bs := Bs.out.below hb Bs.out.lt; obtain ⟨ks0, ks1, -, -, ls⟩ := blk2 bs; have Bs := Lib.hid bs; clear bs; have HB := Lib.hid (HB.out.trans (hb.mono HB.out.size)); clear hb
  go_wp2_with fail
  refine (ft_impl _ _ _).mono ?_
  rintro e w4 ⟨rfl, hb⟩
  (repeat (replace hb := undrew hb)); (repeat (replace hb := unalloc hb)); have bs := Bs.out.below hb Bs.out.lt; obtain ⟨ks0, ks1, -, -, ls⟩ := blk2 bs; have Bs := Lib.hid bs; clear bs; have HB := Lib.hid (HB.out.trans (hb.mono HB.out.size)); clear hb
  go_wp2_with fail
  go_ret; have hb := HB.out; have := hb.size; exact ⟨ret_bool (by first | rfl | (simp; done) | (simp; omega)), (by repeat' (first | (with_reducible exact Below.refl _ _) | (with_reducible assumption) | (with_reducible refine below_drewN ?_ _) | (with_reducible refine Below.drew ?_) | (with_reducible refine bl_alloc ?_ _) | (with_reducible refine bl_set ?_ ?_ _) | go_size | omega))⟩

/-! THE ROW's STEP of FnExactFormatText: from the contract of the law's walk to the given statement. -/
namespace fnExactFormatText
set_option maxRecDepth 100000 in
theorem lifted (os : Os) (started : os.Started) (H : Type) (enc : TypeId × Value → H) :
    ReturnsInHanded {} Tryd.checked os 3 .any (fun w args => (Rows.fnExactFormatTextSpec.pre enc Tryd.prog Tryd.f3 [] false w args ∧ laidMetH Tryd.prog laidL w) ∧ sizedMet enc Tryd.prog Tryd.f3 (OpenSpec.ofChange Rows.fnExactFormatTextSpec) false w args) (Rows.fnExactFormatTextSpec.post enc Tryd.prog Tryd.f3 false true false false) := by
  refine returnsInHanded_of_change_and (C := Tryd.checked) (X := fun w _ => laidMetH Tryd.prog laidL w) (fun _ _ _ hh h => h.of_heap hh) own started (by kernel_rfl) Tryd.func3
    (ChangeSpec.witness_shaped (enc := enc) (C := Tryd.checked) (os := os) (X := fun w _ => laidMetH Tryd.prog laidL w) false (World.doorLaid Tryd.prog 400 os) #[.agg #[.int .i64 0, .int .i64 0]] 8 rfl (World.shaped_of_RefB (by kernel_rfl) (by kernel_rfl)) (by kernel_rfl) (by kernel_rfl) (by kernel_rfl) (door_met os _)) ?_
  intro W base args ds gs before hval0 hW _ _ hL _
  have hval : ∀ (j : Nat) t v, Tryd.f3.params[j]? = some t → args[j]? = some v → Value.okWide Tryd.prog W .any base t v := hval0
  have hW' := hW
  obtain ⟨p, q, hA0, hV, rfl, hfz, hnd⟩ := hW
  have hA : DataW.TrodAll enc Tryd.prog W 0 (fun _ => true) true Tryd.f3.params.toList args.toList ds p := hA0
  rw [Tryd.params3] at hA hval
  obtain ⟨v0, vs0, d0, ds0, p0, q0, hargs, rfl, rfl, h0, r0⟩ := trodAll_cons hA
  obtain ⟨rfl, rfl, rfl⟩ := trodAll_nil r0
  obtain rfl : args = #[v0] := by cases args; simp_all
  obtain ⟨rfl, rfl⟩ := trodVars_none hV
  have k0 := h0
  have lt0 : ∀ x ∈ p0, x.block < W.heap.size := by obtain ⟨m, hm⟩ := k0; exact DataW.trod_lt m _ _ _ hm
  obtain ⟨c0_0, c0_1, y0_0, y0_1, m0, rfl, -, -, hy0_0, hy0_1⟩ := Go.Joins.open_agg2 Tryd.underlying23 (by kernel_rfl) (by kernel_rfl) (hval 0 23 v0 rfl rfl) h0
  obtain ⟨a0_0, e0_0, -, w0_0⟩ := DataW.trod_int Tryd.underlying3 hy0_0
  simp only [List.cons.injEq, and_true] at e0_0
  subst e0_0
  obtain ⟨a0_1, e0_1, -, w0_1⟩ := DataW.trod_int Tryd.underlying3 hy0_1
  simp only [List.cons.injEq, and_true] at e0_1
  subst e0_1
  clear hA0 hval0
  refine (walk a0_0 a0_1 w0_0 w0_1 W hL).mono fun e W' ⟨he, bel⟩ => ?_
  subst he
  exact ⟨_, rfl, _, _, _, [], _, [], hW', trodAll_mk1 (shut_bool Tryd.underlying4 _), (trodAll_cons_mk (Below.trod laidOut (by kernel_rfl) (of_decide_eq_true (by kernel_rfl)) k0 bel lt0) trodAll_mk0), rfl, bel.frame _, fun h => by cases h⟩
end fnExactFormatText

theorem fnExactFormatText_row : Rows.FnExactFormatTextSaid :=
  OpenClaim.holds_of_wide 3 Tryd.f3 rfl rfl rfl rfl rfl rfl rfl ⟨rfl, rfl, rfl, rfl, rfl⟩ rfl rfl rfl rfl rfl (by kernel_rfl) Tryd.func3 (by kernel_rfl)
    (of_decide_eq_true (by kernel_rfl)) (by unfold Func.isWrapper; first | (rw [if_pos (by decide +kernel)]; kernel_rfl) | (rw [if_neg (by decide +kernel)]; exact ⟨rfl, rfl⟩))
    (fun os started H enc _ => fnExactFormatText.lifted os started H enc)
theorem fnExactFormatText_holds : Rows.FnExactFormatTextCardSaid :=
  Claim7.holds_tied_plain_at .later [] [.data, .data, .data] true _ false
    fnExactFormatText_row (fun _ h => by cases h) (by kernel_rfl) (fun _ h => by cases h) fnExactFormatText_row_tie rfl ⟨rfl, rfl⟩ (by kernel_rfl) rfl
    (fun f fn hf hfn => by
      obtain rfl : f = 3 := Option.some.inj ((show Tryd.prog.funcNamed "loop.example/fixedmath/laws.FnExactFormatText" = some 3 by kernel_rfl).symm.trans hf) |>.symm
      obtain rfl : fn = Tryd.f3 := (Option.some.inj (Tryd.func3.symm.trans hfn)).symm
      exact ⟨by kernel_rfl, fun j t ht => by
        rw [Tryd.params3] at ht
        have hm : t ∈ [23] := by simpa using Array.mem_of_getElem? ht
        have hall : ([23].all fun u => !Tryd.prog.wantsStandIn u) = true := by kernel_rfl
        exact (show Tryd.prog.wantsStandIn t = false by simpa using List.all_eq_true.1 hall t hm)⟩)
    (by kernel_rfl)
#print axioms fnExactFormatText_holds

end Go.Proofs.YtcgbbbcanmkcbaaDoor

/- The program's ReadFormat returns what the reference's returns, for all arguments. No condition. -/
import Derived.Test.YtcgbbbcanmkcbaaDoorRfS
import Derived.Test.YtcgbbbcanmkcbaaDoorCardS
namespace Go.Proofs.YtcgbbbcanmkcbaaDoor
open Go.ChangeShapes Go.WideShapes Go.ChangeAt Go.RowKit

attribute [local go_sem] alloc_drewN' setCell_drewN'

set_option maxHeartbeats 1000000 in
theorem fnExactReadFormat.walk (s : ByteArray) (hsz : s.size ≤ maxLen) (w : World) (_ : laidMetH Tryd.prog laidL w) (hsh : w.ShapedOpen Tryd.prog) :
    Calls Tryd.prog 7 #[.string s] w fun e w' => e = .returned (.bool true) ∧ Below w.heap.size w w' := by
  obtain ⟨m, hm⟩ : ∃ m, w.cell? ⟨0, 0, none⟩ = some (.int .i64 m) := Tryd.laysM145.s1_3 w hsh
  have hm2 : (s.size : Int) ≤ 9223372036854775807 := by unfold maxLen at hsz; omega
  by_cases hbig : (1048576 : Int) < (s.size : Int)
  · go_enter Tryd.func7, Tryd.ntmps7
    go_wp2
    go_ret
    exact ⟨rfl, Below.refl _ _⟩
  · have RI := Lib.hid (fun w' hm => rf_impl s m w' (by omega) hm)
    have RS := Lib.hid (fun w' => rf_spec s w')
    have HM := Lib.hid hm
    have HB := Lib.hid (Below.refl w.heap.size w)
    clear hm
    generalize rfA s = a at *
    generalize rfB s = b at *
    generalize rfOk s = o at *
    cases o
    all_goals
      go_enter Tryd.func7, Tryd.ntmps7
      go_wp2_with fail
      refine (RS.out _).mono ?_
      rintro e w1 ⟨rfl, hb⟩
      (repeat (first | (replace hb := undrewN hb) | (replace hb := undrew hb))); (repeat (first | (replace hb := undrewN hb) | (replace hb := undrew hb) | (replace hb := unalloc hb))); have HB := Lib.hid (HB.out.trans (hb.mono HB.out.size)); clear hb
      go_wp2_with fail
      refine (RI.out _ (cell0_below HM.out (by have hb0 := HB.out; repeat (first | (with_reducible exact hb0) | (with_reducible refine below_drewN ?_ _) | (with_reducible refine Below.drew ?_) | (with_reducible refine bl_alloc ?_ _))))).mono ?_
      rintro e w2 ⟨rfl, hb⟩
      (repeat (first | (replace hb := undrewN hb) | (replace hb := undrew hb))); have bx := (Blk.new _ _ _).below hb (by simp); have Bx := Lib.hid bx; obtain ⟨kx0, kx1, fx0, fx1, lx⟩ := blk2 bx; clear bx; (repeat (first | (replace hb := undrewN hb) | (replace hb := undrew hb) | (replace hb := unalloc hb))); have HB := Lib.hid (HB.out.trans (hb.mono HB.out.size)); clear hb
      go_wp2_with (first | go_in)
      go_ret
      have hb := HB.out
      exact ⟨rfl, (by repeat' (first | (with_reducible exact Below.refl _ _) | (with_reducible assumption) | (with_reducible refine below_drewN ?_ _) | (with_reducible refine Below.drew ?_) | (with_reducible refine bl_alloc ?_ _) | (with_reducible refine bl_set ?_ ?_ _) | go_size | omega))⟩

/-! THE ROW's STEP of FnExactReadFormat: from the contract of the law's walk to the given statement. -/
namespace fnExactReadFormat
set_option maxRecDepth 100000 in
theorem lifted (os : Os) (started : os.Started) (H : Type) (enc : TypeId × Value → H) :
    ReturnsInHanded {} Tryd.checked os 7 .any (fun w args => (Rows.fnExactReadFormatSpec.pre enc Tryd.prog Tryd.f7 [] false w args ∧ laidMetH Tryd.prog laidL w) ∧ sizedMet enc Tryd.prog Tryd.f7 (OpenSpec.ofChange Rows.fnExactReadFormatSpec) false w args) (Rows.fnExactReadFormatSpec.post enc Tryd.prog Tryd.f7 false true false false) := by
  refine card_of_shaped (C := Tryd.checked) (X := fun w _ => laidMetH Tryd.prog laidL w) (fun _ _ _ hh h => h.of_heap hh) own started (by kernel_rfl) Tryd.func7
    (ChangeSpec.witness_shaped (enc := enc) (C := Tryd.checked) (os := os) (X := fun w _ => laidMetH Tryd.prog laidL w) false (World.doorLaid Tryd.prog 400 os) #[.string ByteArray.empty] 8 rfl (World.shaped_of_RefB (by kernel_rfl) (by kernel_rfl)) (by kernel_rfl) (by kernel_rfl) (by kernel_rfl) (door_met os _)) ?_
  intro W base args ds gs before hval0 hW _ _ hL _
  have hval : ∀ (j : Nat) t v, Tryd.f7.params[j]? = some t → args[j]? = some v → Value.okWide Tryd.prog W .any base t v := hval0
  have hW' := hW
  obtain ⟨p, q, hA0, hV, rfl, hfz, hnd⟩ := hW
  have hA : DataW.TrodAll enc Tryd.prog W 0 (fun _ => true) true Tryd.f7.params.toList args.toList ds p := hA0
  rw [Tryd.params7] at hA hval
  obtain ⟨v0, vs0, d0, ds0, p0, q0, hargs, rfl, rfl, h0, r0⟩ := trodAll_cons hA
  obtain ⟨rfl, rfl, rfl⟩ := trodAll_nil r0
  obtain rfl : args = #[v0] := by cases args; simp_all
  obtain ⟨rfl, rfl⟩ := trodVars_none hV
  have k0 := h0
  have lt0 : ∀ x ∈ p0, x.block < W.heap.size := by obtain ⟨m, hm⟩ := k0; exact DataW.trod_lt m _ _ _ hm
  obtain ⟨s0, rfl, -, -, w0⟩ := Go.ChangeMaps.open_string Tryd.underlying9 (hval 0 9 v0 rfl rfl) h0
  clear hA0 hval0
  refine (walk s0 w0 W hL.1 hL.2).mono fun e W' ⟨he, bel⟩ => ?_
  subst he
  exact ⟨_, rfl, _, _, _, [], _, [], hW', trodAll_mk1 (shut_bool Tryd.underlying4 _), (trodAll_cons_mk (Below.trod laidOut (by kernel_rfl) (of_decide_eq_true (by kernel_rfl)) k0 bel lt0) trodAll_mk0), rfl, bel.frame _, fun h => by cases h⟩
end fnExactReadFormat

theorem fnExactReadFormat_row : Rows.FnExactReadFormatSaid :=
  OpenClaim.holds_of_wide 7 Tryd.f7 rfl rfl rfl rfl rfl rfl rfl ⟨rfl, rfl, rfl, rfl, rfl⟩ rfl rfl rfl rfl rfl (by kernel_rfl) Tryd.func7 (by kernel_rfl)
    (of_decide_eq_true (by kernel_rfl)) (by unfold Func.isWrapper; first | (rw [if_pos (by decide +kernel)]; kernel_rfl) | (rw [if_neg (by decide +kernel)]; exact ⟨rfl, rfl⟩))
    (fun os started H enc _ => fnExactReadFormat.lifted os started H enc)
theorem fnExactReadFormat_holds : Rows.FnExactReadFormatCardSaid :=
  Claim7.holds_tied_plain_at .later [] [.data, .data, .data] true _ false
    fnExactReadFormat_row (fun _ h => by cases h) (by kernel_rfl) (fun _ h => by cases h) fnExactReadFormat_row_tie rfl ⟨rfl, rfl⟩ (by kernel_rfl) rfl
    (fun f fn hf hfn => by
      obtain rfl : f = 7 := Option.some.inj ((show Tryd.prog.funcNamed "loop.example/fixedmath/laws.FnExactReadFormat" = some 7 by kernel_rfl).symm.trans hf) |>.symm
      obtain rfl : fn = Tryd.f7 := (Option.some.inj (Tryd.func7.symm.trans hfn)).symm
      exact ⟨by kernel_rfl, fun j t ht => by
        rw [Tryd.params7] at ht
        have hm : t ∈ [9] := by simpa using Array.mem_of_getElem? ht
        have hall : ([9].all fun u => !Tryd.prog.wantsStandIn u) = true := by kernel_rfl
        exact (show Tryd.prog.wantsStandIn t = false by simpa using List.all_eq_true.1 hall t hm)⟩)
    (by kernel_rfl)
#print axioms fnExactReadFormat_holds

end Go.Proofs.YtcgbbbcanmkcbaaDoor

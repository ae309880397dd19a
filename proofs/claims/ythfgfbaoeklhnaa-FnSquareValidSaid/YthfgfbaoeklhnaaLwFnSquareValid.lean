/- Square tables have limits: with a greater number one is not valid; with all signs turned a valid one is valid. No condition. -/
import Derived.Test.YthfgfbaoeklhnaaDrawSq2
import Derived.Test.YthfgfbaoeklhnaaAlive
namespace Go.Proofs.Ythfgfbaoeklhnaa
open Go.ChangeShapes Go.WideShapes Go.ChangeAt Go.RowKit

set_option maxHeartbeats 4000000 in
theorem fnSquareValid.walk (w : World) (a : Option Addr) (len cap : Nat) (zs : List Int) (hrow : IsRow .u8 w a len cap zs) :
    Calls Try.prog 9 #[.slice a len cap] w fun e w' => e = .returned (.bool true) ∧ Below w.heap.size w w' := by
  obtain ⟨hl1, hl2, -⟩ := code_of_row hrow
  have hm : (len : Int) ≤ 9223372036854775807 := by unfold maxLen at hl2; omega
  by_cases hbig : (1048576 : Int) < (len : Int)
  · clear hrow hl1 hl2
    go_enter Try.func9, Try.ntmps9
    go_wp2
    go_ret
    exact ⟨rfl, Below.refl _ _⟩
  · go_enter Try.func9, Try.ntmps9
    go_wp2_with fail
    refine (drawsquarevalid_any hrow).mono ?_
    rintro e w1 ⟨x, y, z, t, ⟨x1, x2⟩, ⟨y1, y2⟩, ⟨z1, z2⟩, ⟨t1, t2⟩, rfl, hb⟩
    have HB := Lib.hid hb
    clear hb hrow hl1 hl2
    have e1 : Sq.ok ⟨1000000001, y, 0, 0⟩ = false := Sq.ok_no (by omega)
    obtain ⟨o, ho⟩ : ∃ o, Sq.ok ⟨x, y, z, t⟩ = o := ⟨_, rfl⟩
    have e2 : Sq.ok ⟨-x, -y, -z, -t⟩ = o := by
      rw [← ho]; unfold Sq.ok; rw [decide_eq_decide]; dsimp only; omega
    cases o
    all_goals
      go_wp2_with (first | (go_at_call 19; refine (sqv_impl _ _ _ _ _).mono ?_; rintro e w' ⟨rfl, rfl⟩) | (go_at_call 17; refine (sqv_spec _ _ _ _ _).mono ?_; rintro e w' ⟨rfl, rfl⟩) | (go_at_call 32; refine (alive_any _).mono ?_; rintro e w' ⟨rfl, rfl⟩))
      go_ret
      have hb := HB.out
      have := hb.size
      exact ⟨rfl, by go_grown⟩

/-! THE ROW's STEP of FnSquareValid: from the contract of the law's walk to the given statement. -/
namespace fnSquareValid
set_option maxRecDepth 100000 in
theorem lifted (os : Os) (started : os.Started) (H : Type) (enc : TypeId × Value → H) :
    ReturnsInHanded {} Try.checked os 9 .any (Rows.fnSquareValidSpec.pre6 enc Try.prog Try.f9 Rows.fnSquareValidRow.domain false) (Rows.fnSquareValidSpec.post enc Try.prog Try.f9 false true false false) := by
  refine returnsInHanded_of_change (C := Try.checked) own started (by kernel_rfl) Try.func9
    (ChangeSpec.witness6 (enc := enc) (C := Try.checked) false ⟨#[], #[.slice none 0 0], []⟩ 8 (by kernel_rfl) (by kernel_rfl) (by kernel_rfl) (by kernel_rfl)) ?_
  intro W base args ds gs before hval0 hW hcnd _
  have hval : ∀ (j : Nat) t v, Try.f9.params[j]? = some t → args[j]? = some v → Value.okWide Try.prog W .any base t v := hval0
  have hW' := hW
  obtain ⟨p, q, hA0, hV, rfl, hfz, hnd⟩ := hW
  have hA : DataW.TrodAll enc Try.prog W 0 (fun _ => true) true Try.f9.params.toList args.toList ds p := hA0
  rw [Try.params9] at hA hval
  obtain ⟨v0, vs0, d0, ds0, p0, q0, hargs, rfl, rfl, h0, r0⟩ := trodAll_cons hA
  obtain ⟨rfl, rfl, rfl⟩ := trodAll_nil r0
  obtain rfl : args = #[v0] := by cases args; simp_all
  obtain ⟨rfl, rfl⟩ := trodVars_none hV
  have k0 := h0
  have lt0 : ∀ x ∈ p0, x.block < W.heap.size := by obtain ⟨m, hm⟩ := k0; exact DataW.trod_lt m _ _ _ hm
  obtain ⟨a0, len0, cap0, rfl⟩ := okWide_slice Try.underlying39 (hval 0 39 v0 rfl rfl)
  obtain ⟨z0, w0⟩ : ∃ zs, IsRow .u8 W a0 len0 cap0 zs := by
    obtain ⟨fuel, hf⟩ := h0
    rcases open_ints Try.underlying39 Try.underlying5 (by kernel_rfl) hf with ⟨hcs, _⟩ | ⟨x, l, c, zs, hcs, _, hl, hm, hz, _, hcell, hwz⟩
    · simp [Value.cells] at hcs
      obtain ⟨rfl, rfl, rfl⟩ := hcs
      exact ⟨[], .inl ⟨rfl, rfl, rfl, rfl⟩⟩
    · simp [Value.cells] at hcs
      obtain ⟨rfl, rfl, rfl⟩ := hcs
      exact ⟨zs, .inr ⟨_, rfl, hl, hm, by simpa using hz, hcell, hwz, isRow_lt hcell⟩⟩
  clear hA0 hval0
  refine (walk W a0 len0 cap0 z0 w0).mono fun e W' ⟨he, bel⟩ => ?_
  subst he
  exact ⟨_, rfl, _, _, _, [], _, [], hW', trodAll_mk1 (shut_bool Try.underlying4 _), (trodAll_cons_mk (Below.trod laidOut (by kernel_rfl) (of_decide_eq_true (by kernel_rfl)) k0 bel lt0) trodAll_mk0), rfl, bel.frame _, fun h => by cases h⟩
end fnSquareValid

theorem fnSquareValid_holds : Rows.FnSquareValidSaid :=
  OpenClaim.holds_of_wide 9 Try.f9 rfl rfl rfl rfl rfl rfl rfl ⟨rfl, rfl, rfl, rfl, rfl⟩ rfl rfl rfl rfl rfl (by kernel_rfl) Try.func9 (by kernel_rfl)
    (of_decide_eq_true (by kernel_rfl)) (by unfold Func.isWrapper; first | (rw [if_pos (by decide +kernel)]; kernel_rfl) | (rw [if_neg (by decide +kernel)]; exact ⟨rfl, rfl⟩))
    (fun os started H enc _ => fnSquareValid.lifted os started H enc)
#print axioms fnSquareValid_holds

end Go.Proofs.Ythfgfbaoeklhnaa

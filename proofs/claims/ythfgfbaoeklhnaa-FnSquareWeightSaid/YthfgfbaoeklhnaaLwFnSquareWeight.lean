/- Exchanged rows turn the sign: with both rows exchanged the weight has the other sign. No condition. -/
import Derived.Test.YthfgfbaoeklhnaaDrawSq2
import Derived.Test.YthfgfbaoeklhnaaAlive
namespace Go.Proofs.Ythfgfbaoeklhnaa
open Go.ChangeShapes Go.WideShapes Go.ChangeAt Go.RowKit

theorem weight_turn (a b c d : Int) : Sq.weight ⟨c, d, a, b⟩ = -Sq.weight ⟨a, b, c, d⟩ ∧ Sq.weight ⟨a, c, b, d⟩ = Sq.weight ⟨a, b, c, d⟩ := by
  unfold Sq.weight
  by_cases h : Sq.ok ⟨a, b, c, d⟩ = true
  · have h' := Sq.ok_mk h
    rw [if_pos h, if_pos (Sq.ok_of (by omega)), if_pos (Sq.ok_of (by omega))]
    dsimp only
    constructor <;> grind
  · have h1 : ¬ Sq.ok ⟨c, d, a, b⟩ = true := fun h1 => h (Sq.ok_of (by have := Sq.ok_mk h1; omega))
    have h2 : ¬ Sq.ok ⟨a, c, b, d⟩ = true := fun h1 => h (Sq.ok_of (by have := Sq.ok_mk h1; omega))
    rw [if_neg h, if_neg h1, if_neg h2]
    omega
theorem weight_bd (a b c d : Int) : -2000000000000000000 ≤ Sq.weight ⟨a, b, c, d⟩ ∧ Sq.weight ⟨a, b, c, d⟩ ≤ 2000000000000000000 := by
  unfold Sq.weight
  split
  · rename_i h
    obtain ⟨ha, hb, hc, hd⟩ := Sq.ok_mk h
    have p1 := prod_bd ha hd
    have p2 := prod_bd hb hc
    dsimp only
    omega
  · omega
set_option maxHeartbeats 4000000 in
theorem fnSquareWeight.walk (w : World) (a : Option Addr) (len cap : Nat) (zs : List Int) (hrow : IsRow .u8 w a len cap zs) :
    Calls Try.prog 11 #[.slice a len cap] w fun e w' => e = .returned (.bool true) ∧ Below w.heap.size w w' := by
  obtain ⟨hl1, hl2, -⟩ := code_of_row hrow
  have hm : (len : Int) ≤ 9223372036854775807 := by unfold maxLen at hl2; omega
  by_cases hbig : (1048576 : Int) < (len : Int)
  · clear hrow hl1 hl2
    go_enter Try.func11, Try.ntmps11
    go_wp2
    go_ret
    exact ⟨rfl, Below.refl _ _⟩
  · go_enter Try.func11, Try.ntmps11
    go_wp2_with fail
    refine (drawsquareweight_any hrow).mono ?_
    rintro e w1 ⟨x, y, z, t, -, -, -, -, rfl, hb⟩
    have HB := Lib.hid hb
    clear hb hrow hl1 hl2
    obtain ⟨e1, e2⟩ := weight_turn x y z t
    obtain ⟨e3, e4⟩ := weight_bd x y z t
    generalize hn : Sq.weight ⟨x, y, z, t⟩ = n at e1 e2 e3 e4
    · skip
      go_wp2_with fail
      refine (weight_impl _ _ _ _ _).mono ?_
      rintro e w2 ⟨rfl, hb⟩
      (repeat (replace hb := undrew hb)); have bs := (Blk.new _ _ _).below hb (by simp); have Bs := Lib.hid bs; obtain ⟨ks0, ks1, ks2, ks3, -, -, -, -, ls⟩ := blk4 bs; clear bs; (repeat (replace hb := unalloc hb)); have HB := Lib.hid (HB.out.trans (hb.mono HB.out.size)); clear hb
      go_wp2_with fail
      refine (weight_spec _ _ _ _ _).mono ?_
      rintro e w3 ⟨rfl, hb⟩
      (repeat (replace hb := undrew hb)); (repeat (replace hb := unalloc hb)); have bs := Bs.out.below hb Bs.out.lt; obtain ⟨ks0, ks1, ks2, ks3, -, -, -, -, ls⟩ := blk4 bs; have Bs := Lib.hid bs; clear bs; have HB := Lib.hid (HB.out.trans (hb.mono HB.out.size)); clear hb
      go_wp2_with fail
      refine (weight_impl _ _ _ _ _).mono ?_
      rintro e w4 ⟨rfl, hb⟩
      (repeat (replace hb := undrew hb)); (repeat (replace hb := unalloc hb)); have bs := Bs.out.below hb Bs.out.lt; obtain ⟨ks0, ks1, ks2, ks3, -, -, -, -, ls⟩ := blk4 bs; have Bs := Lib.hid bs; clear bs; have HB := Lib.hid (HB.out.trans (hb.mono HB.out.size)); clear hb
      go_wp2_with fail
      refine (weight_impl _ _ _ _ _).mono ?_
      rintro e w5 ⟨rfl, hb⟩
      (repeat (replace hb := undrew hb)); (repeat (replace hb := unalloc hb)); have bs := Bs.out.below hb Bs.out.lt; obtain ⟨ks0, ks1, ks2, ks3, -, -, -, -, ls⟩ := blk4 bs; have Bs := Lib.hid bs; clear bs; have HB := Lib.hid (HB.out.trans (hb.mono HB.out.size)); clear hb
      go_wp2_with (first | (go_at_call 32; refine (alive_any _).mono ?_; rintro e w' ⟨rfl, rfl⟩))
      go_ret
      have hb := HB.out
      have := hb.size
      exact ⟨rfl, by go_grown⟩

/-! THE ROW's STEP of FnSquareWeight: from the contract of the law's walk to the given statement. -/
namespace fnSquareWeight
set_option maxRecDepth 100000 in
theorem lifted (os : Os) (started : os.Started) (H : Type) (enc : TypeId × Value → H) :
    ReturnsInHanded {} Try.checked os 11 .any (Rows.fnSquareWeightSpec.pre6 enc Try.prog Try.f11 Rows.fnSquareWeightRow.domain false) (Rows.fnSquareWeightSpec.post enc Try.prog Try.f11 false true false false) := by
  refine returnsInHanded_of_change (C := Try.checked) own started (by kernel_rfl) Try.func11
    (ChangeSpec.witness6 (enc := enc) (C := Try.checked) false ⟨#[], #[.slice none 0 0], []⟩ 8 (by kernel_rfl) (by kernel_rfl) (by kernel_rfl) (by kernel_rfl)) ?_
  intro W base args ds gs before hval0 hW hcnd _
  have hval : ∀ (j : Nat) t v, Try.f11.params[j]? = some t → args[j]? = some v → Value.okWide Try.prog W .any base t v := hval0
  have hW' := hW
  obtain ⟨p, q, hA0, hV, rfl, hfz, hnd⟩ := hW
  have hA : DataW.TrodAll enc Try.prog W 0 (fun _ => true) true Try.f11.params.toList args.toList ds p := hA0
  rw [Try.params11] at hA hval
  obtain ⟨v0, vs0, d0, ds0, p0, q0, hargs, rfl, rfl, h0, r0⟩ := trodAll_cons hA
  obtain ⟨rfl, rfl, rfl⟩ := trodAll_nil r0
  obtain rfl : args = #[v0] := by cases args; simp_all
  obtain ⟨rfl, rfl⟩ := trodVars_none hV
  have k0 := h0
  have lt0 : ∀ x ∈ p0, x.block < W.heap.size := by obtain ⟨m, hm⟩ := k0; exact DataW.trod_lt m _ _ _ hm
  obtain ⟨a0, len0, cap0, rfl⟩ := okWide_slice Try.underlying39 (hval 0 39 v0 rfl rfl)
  obtain ⟨z0, w0⟩ : ∃ zs, IsRow .u8 W a0 len0 cap0 zs := by
    obtain ⟨fuel, hf⟩ := h0
    rcases open_ints Try.underlying39 Try.underlying5 (by kernel_rfl) hf with ⟨hcs, _⟩ | ⟨x, l, c, zs, hcs, _, hl, hm, hz, _, hcell, hwz⟩
    · simp [Value.cells] at hcs
      obtain ⟨rfl, rfl, rfl⟩ := hcs
      exact ⟨[], .inl ⟨rfl, rfl, rfl, rfl⟩⟩
    · simp [Value.cells] at hcs
      obtain ⟨rfl, rfl, rfl⟩ := hcs
      exact ⟨zs, .inr ⟨_, rfl, hl, hm, by simpa using hz, hcell, hwz, isRow_lt hcell⟩⟩
  clear hA0 hval0
  refine (walk W a0 len0 cap0 z0 w0).mono fun e W' ⟨he, bel⟩ => ?_
  subst he
  exact ⟨_, rfl, _, _, _, [], _, [], hW', trodAll_mk1 (shut_bool Try.underlying4 _), (trodAll_cons_mk (Below.trod laidOut (by kernel_rfl) (of_decide_eq_true (by kernel_rfl)) k0 bel lt0) trodAll_mk0), rfl, bel.frame _, fun h => by cases h⟩
end fnSquareWeight

theorem fnSquareWeight_holds : Rows.FnSquareWeightSaid :=
  OpenClaim.holds_of_wide 11 Try.f11 rfl rfl rfl rfl rfl rfl rfl ⟨rfl, rfl, rfl, rfl, rfl⟩ rfl rfl rfl rfl rfl (by kernel_rfl) Try.func11 (by kernel_rfl)
    (of_decide_eq_true (by kernel_rfl)) (by unfold Func.isWrapper; first | (rw [if_pos (by decide +kernel)]; kernel_rfl) | (rw [if_neg (by decide +kernel)]; exact ⟨rfl, rfl⟩))
    (fun os started H enc _ => fnSquareWeight.lifted os started H enc)
#print axioms fnSquareWeight_holds

end Go.Proofs.Ythfgfbaoeklhnaa

/- Calculators show what can be stored: one that shows 0 is valid exactly if its format is. No condition. -/
import Derived.Test.YtldhmlohkhmaaaaDrawCa
import Derived.Test.YtldhmlohkhmaaaaAlive
namespace Go.Proofs.Ytldhmlohkhmaaaa
open Go.ChangeShapes Go.WideShapes Go.ChangeAt Go.RowKit

theorem calvb_impl {a b c : Int} {x o : Bool} (h : fitB a b c = o) (w : World) : Calls Try.prog 7 #[.agg #[.int .i64 a, .int .i64 b, .int .i64 c, .bool x]] w fun e w' => e = .returned (.bool o) ∧ Below w.heap.size w w' := h ▸ calv_impl a b c x w
theorem calvb_spec {a b c : Int} {x o : Bool} (h : fitB a b c = o) (w : World) : Calls Try.prog 5 #[.agg #[.int .i64 a, .int .i64 b, .int .i64 c, .bool x]] w fun e w' => e = .returned (.bool o) ∧ Below w.heap.size w w' := h ▸ calv_spec a b c x w
theorem fit_zero (p q : Int) : fitB p q 0 = fmtB p q := by
  unfold fitB fmtB
  rw [decide_eq_decide]
  constructor
  · exact fun h => h.1
  · intro h
    have := pw_bd h.1 h.2.1 h.2.2.1 h.2.2.2
    exact ⟨h, by omega, by omega⟩
structure InC (w : World) (g : Nat) (t : TypeId) (p q s : Int) (x : Bool) (w' : World) : Prop where
  bel : Below w.heap.size w w'
  c : Blk w' g t #[.int .i64 p, .int .i64 q, .int .i64 s, .bool x]
theorem InC.below {w w1 w2 : World} {g : Nat} {t : TypeId} {p q s : Int} {x : Bool} (h : InC w g t p q s x w1) (hb : Below w1.heap.size w1 w2) : InC w g t p q s x w2 := ⟨bl_behind hb h.bel, h.c.below hb h.c.lt⟩
theorem InC.drewN {w w1 : World} {g : Nat} {t : TypeId} {p q s : Int} {x : Bool} (h : InC w g t p q s x w1) (n : Nat) : InC w g t p q s x (w1.drewN n) := ⟨below_drewN h.bel n, h.c.drewN n⟩
set_option maxHeartbeats 1000000 in
theorem drawcalculatorvalid_any {w : World} {a : Option Addr} {len cap : Nat} {zs : List Int} (hrow : IsRow .u8 w a len cap zs) :
    Calls Try.prog 8 #[.slice a len cap] w (fun e w' => ∃ (p q s : Int) (x : Bool), (-1 ≤ p ∧ p ≤ 17) ∧ (-1 ≤ q ∧ q ≤ 17) ∧ (-268435457 ≤ s ∧ s ≤ 9223372036854775807) ∧ e = .returned (.agg #[.int .i64 p, .int .i64 q, .int .i64 s, .bool x]) ∧ Below w.heap.size w w') := by
  have hB2 : Below w.heap.size w (w.alloc (.cells #[.int .i64 0, .int .i64 0, .int .i64 0, .bool false] 29)) := (Below.refl _ w).alloc (Nat.le_refl _) _
  go_enter Try.func8, Try.ntmps8
  go_wp2_with fail
  refine (open_base hB2 hrow).mono ?_
  rintro e w1 ⟨rfl, R0, hb1⟩
  rw [World.size_alloc] at R0
  go_wp2_with fail
  refine (l20calculator_any R0 (by omega) (by omega) (by omega)).mono ?_
  rintro e w2 ⟨p, q, s, x, hp, hq, hs, rfl, R1, G1⟩
  have bz := ((Blk.new w 29 #[.int .i64 0, .int .i64 0, .int .i64 0, .bool false]).below hb1 (by simp)).grown G1 (by intro e; injection e with e; first | omega | (simp at e; omega))
  obtain ⟨d0, d1, d2, d3, e0, e1, e2, e3, lz⟩ := blk4 bz
  have HR := Lib.hid R1.below
  have bq := (((bz.set 0 (.int .i64 p)).set 1 (.int .i64 q)).set 2 (.int .i64 s)).set 3 (.bool x)
  simp only [List.setIfInBounds_toArray, List.set_cons_zero, List.set_cons_succ] at bq
  obtain ⟨k0, k1, k2, k3, -, -, -, -, -⟩ := blk4 bq
  clear bz bq R0 R1 G1 hb1 hB2
  go_wp2_with fail
  refine bodyPost_ret (v := .agg #[.int .i64 p, .int .i64 q, .int .i64 s, .bool x]) (by simp [results, Try.results8, go_sem, k0, k1, k2, k3]) rfl ?_
  have hb := HR.out
  exact ⟨p, q, s, x, hp, hq, hs, rfl, (by repeat' (first | (with_reducible exact Below.refl _ _) | (with_reducible assumption) | (with_reducible refine below_drewN ?_ _) | (with_reducible refine Below.drew ?_) | (with_reducible refine bl_alloc ?_ _) | (with_reducible refine bl_set ?_ ?_ _) | go_size | omega))⟩
set_option maxHeartbeats 4000000 in
theorem fnCalculatorValid.walk (w : World) (a : Option Addr) (len cap : Nat) (zs : List Int) (hrow : IsRow .u8 w a len cap zs) :
    Calls Try.prog 4 #[.slice a len cap] w fun e w' => e = .returned (.bool true) ∧ Below w.heap.size w w' := by
  obtain ⟨hl1, hl2, -⟩ := code_of_row hrow
  have hm : (len : Int) ≤ 9223372036854775807 := by unfold maxLen at hl2; omega
  by_cases hbig : (1048576 : Int) < (len : Int)
  · clear hrow hl1 hl2
    go_enter Try.func4, Try.ntmps4
    go_wp2
    go_ret
    exact ⟨rfl, Below.refl _ _⟩
  · go_enter Try.func4, Try.ntmps4
    go_wp2_with fail
    refine (drawcalculatorvalid_any hrow).mono ?_
    rintro e w1 ⟨p, q, s, x, hp, hq, hs, rfl, hb⟩
    have HB := Lib.hid hb
    clear hb hrow hl1 hl2
    have h0 := fit_zero p q
    cases hok : fitB p q s
    all_goals
      cases hfm : fmtB p q
    all_goals
      first
        | (exfalso; have := (fitB_mk hok).1; have hh := fmtB_in this.1 this.2.1 this.2.2.1 this.2.2.2; rw [hfm] at hh; cases hh; done)
        | (rw [hfm] at h0
           go_wp2_with fail
           refine (calvb_impl hok _).mono ?_
           rintro e w2 ⟨rfl, hb⟩
           (repeat (replace hb := undrew hb)); have bs := (Blk.new _ _ _).below hb (by simp); have Bs := Lib.hid bs; obtain ⟨ks0, ks1, ks2, ks3, -, -, -, -, ls⟩ := blk4 bs; clear bs; (repeat (replace hb := unalloc hb)); have HB := Lib.hid (HB.out.trans (hb.mono HB.out.size)); clear hb
           go_wp2_with fail
           refine (calvb_spec hok _).mono ?_
           rintro e w3 ⟨rfl, hb⟩
           (repeat (replace hb := undrew hb)); (repeat (replace hb := unalloc hb)); have bs := Bs.out.below hb Bs.out.lt; obtain ⟨ks0, ks1, ks2, ks3, -, -, -, -, ls⟩ := blk4 bs; have Bs := Lib.hid bs; clear bs; have HB := Lib.hid (HB.out.trans (hb.mono HB.out.size)); clear hb
           have hC : InC w w1.heap.size 29 p q s x { w3 with drawn := w3.drawn + 1 } := ⟨HB.out.drew, Bs.out.drew⟩
           go_wp2_with fail
           refine wp_region_quietC (C := InC w w1.heap.size 29 p q s x) (by kernel_rfl) (by kernel_rfl) hC ?_
           repeat
               (refine wpQuiet_step (fun K hK => ?_)
                go_simp
                first
                  | (refine hK _ ?_; clear hK K)
                  | (apply Exists.intro
                     refine ⟨fun w' hw' => ?_, hK _ ?_⟩
                     first
                       | (obtain ⟨c0, c1, c2, c3, -, -, -, -, lz⟩ := blk4 hw'.c; go_simp; rfl)
                       | (first | (go_at_call 7; refine (calvb_impl h0 _).mono ?_; rintro e w2 ⟨rfl, hb⟩; exact ⟨rfl, hw'.below hb⟩) | (go_at_call 9; refine (fmvb_impl hfm _).mono ?_; rintro e w2 ⟨rfl, mm, rfl⟩; exact ⟨rfl, (hw'.below ((Below.refl _ _).alloc (Nat.le_refl _) _)).drewN _⟩) | (go_at_call 10; refine (alive_any _).mono ?_; rintro e w2 ⟨rfl, rfl⟩; exact ⟨rfl, hw'⟩))
                     clear hK K))
           refine wpQuiet_nil ?_
           intro w4 hw4
           go_wp2_with fail
           go_ret
           exact ⟨rfl, hw4.bel⟩)

/-! THE ROW's STEP of FnCalculatorValid: from the contract of the law's walk to the given statement. -/
namespace fnCalculatorValid
set_option maxRecDepth 100000 in
theorem lifted (os : Os) (started : os.Started) (H : Type) (enc : TypeId × Value → H) :
    ReturnsInHanded {} Try.checked os 4 .any (Rows.fnCalculatorValidSpec.pre6 enc Try.prog Try.f4 Rows.fnCalculatorValidRow.domain false) (Rows.fnCalculatorValidSpec.post enc Try.prog Try.f4 false true false false) := by
  refine returnsInHanded_of_change (C := Try.checked) own started (by kernel_rfl) Try.func4
    (ChangeSpec.witness6 (enc := enc) (C := Try.checked) false ⟨#[], #[.slice none 0 0], []⟩ 8 (by kernel_rfl) (by kernel_rfl) (by kernel_rfl) (by kernel_rfl)) ?_
  intro W base args ds gs before hval0 hW hcnd _
  have hval : ∀ (j : Nat) t v, Try.f4.params[j]? = some t → args[j]? = some v → Value.okWide Try.prog W .any base t v := hval0
  have hW' := hW
  obtain ⟨p, q, hA0, hV, rfl, hfz, hnd⟩ := hW
  have hA : DataW.TrodAll enc Try.prog W 0 (fun _ => true) true Try.f4.params.toList args.toList ds p := hA0
  rw [Try.params4] at hA hval
  obtain ⟨v0, vs0, d0, ds0, p0, q0, hargs, rfl, rfl, h0, r0⟩ := trodAll_cons hA
  obtain ⟨rfl, rfl, rfl⟩ := trodAll_nil r0
  obtain rfl : args = #[v0] := by cases args; simp_all
  obtain ⟨rfl, rfl⟩ := trodVars_none hV
  have k0 := h0
  have lt0 : ∀ x ∈ p0, x.block < W.heap.size := by obtain ⟨m, hm⟩ := k0; exact DataW.trod_lt m _ _ _ hm
  obtain ⟨a0, len0, cap0, rfl⟩ := okWide_slice Try.underlying32 (hval 0 32 v0 rfl rfl)
  obtain ⟨z0, w0⟩ : ∃ zs, IsRow .u8 W a0 len0 cap0 zs := by
    obtain ⟨fuel, hf⟩ := h0
    rcases open_ints Try.underlying32 Try.underlying5 (by kernel_rfl) hf with ⟨hcs, _⟩ | ⟨x, l, c, zs, hcs, _, hl, hm, hz, _, hcell, hwz⟩
    · simp [Value.cells] at hcs
      obtain ⟨rfl, rfl, rfl⟩ := hcs
      exact ⟨[], .inl ⟨rfl, rfl, rfl, rfl⟩⟩
    · simp [Value.cells] at hcs
      obtain ⟨rfl, rfl, rfl⟩ := hcs
      exact ⟨zs, .inr ⟨_, rfl, hl, hm, by simpa using hz, hcell, hwz, isRow_lt hcell⟩⟩
  clear hA0 hval0
  refine (walk W a0 len0 cap0 z0 w0).mono fun e W' ⟨he, bel⟩ => ?_
  subst he
  exact ⟨_, rfl, _, _, _, [], _, [], hW', trodAll_mk1 (shut_bool Try.underlying4 _), (trodAll_cons_mk (Below.trod laidOut (by kernel_rfl) (of_decide_eq_true (by kernel_rfl)) k0 bel lt0) trodAll_mk0), rfl, bel.frame _, fun h => by cases h⟩
end fnCalculatorValid

theorem fnCalculatorValid_holds : Rows.FnCalculatorValidSaid :=
  OpenClaim.holds_of_wide 4 Try.f4 rfl rfl rfl rfl rfl rfl rfl ⟨rfl, rfl, rfl, rfl, rfl⟩ rfl rfl rfl rfl rfl (by kernel_rfl) Try.func4 (by kernel_rfl)
    (of_decide_eq_true (by kernel_rfl)) (by unfold Func.isWrapper; first | (rw [if_pos (by decide +kernel)]; kernel_rfl) | (rw [if_neg (by decide +kernel)]; exact ⟨rfl, rfl⟩))
    (fun os started H enc _ => fnCalculatorValid.lifted os started H enc)
#print axioms fnCalculatorValid_holds

end Go.Proofs.Ytldhmlohkhmaaaa

/- Common parts divide both: the parts that are left have no common part but 1; the order does not matter. No condition. -/
import Derived.Test.YtlcmpcjimmdcfaaDrawG
import Derived.Test.YtlcmpcjimmdcfaaGcd
import Derived.Test.YtlcmpcjimmdcfaaAlive
namespace Go.Proofs.Ytlcmpcjimmdcfaa
open Go.ChangeShapes Go.WideShapes Go.ChangeAt Go.RowKit

theorem gcd_parts {a b : Int} (h : gcdOk a b) (h0 : 0 < Int.gcd a b) : a.tmod (Int.gcd a b) = 0 ∧ b.tmod (Int.gcd a b) = 0 ∧ gcdOf (a.tdiv (Int.gcd a b)) (b.tdiv (Int.gcd a b)) = 1 ∧ (-1152921504606846976 ≤ a.tdiv (Int.gcd a b) ∧ a.tdiv (Int.gcd a b) ≤ 1152921504606846976) ∧ (-1152921504606846976 ≤ b.tdiv (Int.gcd a b) ∧ b.tdiv (Int.gcd a b) ≤ 1152921504606846976) := by
  obtain ⟨u, hu⟩ := Int.gcd_dvd_left a b
  obtain ⟨v, hv⟩ := Int.gcd_dvd_right a b
  have hg : Int.gcd a b = (Int.gcd a b) * Int.gcd u v := by
    have e : Int.gcd ((Int.gcd a b : Int) * u) ((Int.gcd a b : Int) * v) = (Int.gcd a b : Int).natAbs * Int.gcd u v := Int.gcd_mul_left ..
    rw [← hu, ← hv] at e
    simpa using e
  have h1 : Int.gcd u v = 1 := by
    rcases Nat.lt_trichotomy (Int.gcd u v) 1 with h2 | h2 | h2
    · have : Int.gcd u v = 0 := by omega
      rw [this] at hg; omega
    · exact h2
    · have := Nat.mul_le_mul_left (Int.gcd a b) h2; omega
  have bd : ∀ {x y : Int} {n : Nat}, 0 < n → x = (n : Int) * y → -1152921504606846976 ≤ x → x ≤ 1152921504606846976 → -1152921504606846976 ≤ y ∧ y ≤ 1152921504606846976 := by
    intro x y n hn hx h2 h3
    have hz : y.natAbs ≤ x.natAbs := by rw [hx, Int.natAbs_mul]; exact Nat.le_mul_of_pos_left _ (by omega)
    omega
  obtain ⟨k1, k2, k3, k4⟩ := h
  have bu := bd h0 hu k1 k2
  have bv := bd h0 hv k3 k4
  generalize hgn : Int.gcd a b = n at *
  have hn : (n : Int) ≠ 0 := by omega
  have e1 : a.tdiv n = u := by rw [hu, Int.mul_tdiv_cancel_left _ hn]
  have e2 : b.tdiv n = v := by rw [hv, Int.mul_tdiv_cancel_left _ hn]
  rw [e1, e2]
  refine ⟨by rw [hu, Int.mul_tmod_right], by rw [hv, Int.mul_tmod_right], ?_, bu, bv⟩
  rw [gcdOf_in (by unfold gcdOk; omega), h1]
  rfl
theorem gcdOf_comm (a b : Int) : gcdOf b a = gcdOf a b := by
  by_cases h : gcdOk a b
  · rw [gcdOf_in h, gcdOf_in (by unfold gcdOk at *; omega), Int.gcd_comm]
  · rw [← gcdOf_out h, ← gcdOf_out (by unfold gcdOk at *; omega)]
theorem gcdOf_turn (a b : Int) : gcdOf (-a) b = gcdOf a b := by
  by_cases h : gcdOk a b
  · rw [gcdOf_in h, gcdOf_in (by unfold gcdOk at *; omega), Int.neg_gcd]
  · rw [← gcdOf_out h, ← gcdOf_out (by unfold gcdOk at *; omega)]
set_option maxHeartbeats 4000000 in
theorem fnGcdOf.walk (w : World) (a : Option Addr) (len cap : Nat) (zs : List Int) (hrow : IsRow .u8 w a len cap zs) :
    Calls Try.prog 4 #[.slice a len cap] w fun e w' => e = .returned (.bool true) ∧ Below w.heap.size w w' := by
  obtain ⟨hl1, hl2, -⟩ := code_of_row hrow
  have hm : (len : Int) ≤ 9223372036854775807 := by unfold maxLen at hl2; omega
  by_cases hbig : (1048576 : Int) < (len : Int)
  · clear hrow hl1 hl2
    go_enter Try.func4, Try.ntmps4
    go_wp2
    go_ret
    exact ⟨rfl, Below.refl _ _⟩
  · go_enter Try.func4, Try.ntmps4
    go_wp2_with fail
    refine (drawgcdof_any hrow).mono ?_
    rintro e w1 ⟨a, b, a0, a1, b0, b1, rfl, hb⟩
    have HB := Lib.hid hb
    clear hb hrow hl1 hl2
    have e1 := gcdOf_comm a b
    have e2 := gcdOf_turn a b
    obtain ⟨n, hn⟩ : ∃ n, gcdOf a b = n := ⟨_, rfl⟩
    rw [hn] at e1 e2
    by_cases hok : gcdOk a b
    · have hg := gcdOf_in hok
      rw [hn] at hg
      rcases Nat.eq_zero_or_pos (Int.gcd a b) with hz | hz
      · have hz' := Int.gcd_eq_zero_iff.1 hz
        obtain ⟨rfl, rfl⟩ := hz'
        have hn0 : n = 0 := by omega
        subst hn0
        clear hg hz hok
        go_wp2_with (first | (go_at_call 16; refine (gcd_impl _ _ _).mono ?_; rintro e w' ⟨rfl, mm, rfl⟩) | (go_at_call 15; refine (gcd_spec _ _ _).mono ?_; rintro e w' ⟨rfl, mm, rfl⟩) | (go_at_call 18; refine (alive_any _).mono ?_; rintro e w' ⟨rfl, rfl⟩))
        all_goals (go_ret; have hb := HB.out; have := hb.size; exact ⟨ret_bool (by first | rfl | (simp; done) | (simp; omega)), (by repeat' (first | (with_reducible exact Below.refl _ _) | (with_reducible assumption) | (with_reducible refine below_drewN ?_ _) | (with_reducible refine Below.drew ?_) | (with_reducible refine bl_alloc ?_ _) | (with_reducible refine bl_set ?_ ?_ _) | go_size | omega))⟩)
      · obtain ⟨p1, p2, p3, ⟨p4, p5⟩, p6, p7⟩ := gcd_parts hok hz
        rw [← hg] at p1 p2 p3 p4 p5 p6 p7
        have n1 : 1 ≤ n := by omega
        have n2 : n ≤ 1152921504606846976 := by
          have := hok
          unfold gcdOk at this
          rcases Nat.eq_zero_or_pos b.natAbs with h | h
          · have hb0 : b = 0 := by omega
            subst hb0
            rw [Int.gcd_zero_right] at hg
            omega
          · have := Nat.le_of_dvd h (Nat.gcd_dvd_right a.natAbs b.natAbs)
            have : Int.gcd a b ≤ b.natAbs := this
            omega
        clear hg hz hok
        go_wp2_with (first | (go_at_call 16; refine (gcd_impl _ _ _).mono ?_; rintro e w' ⟨rfl, mm, hww⟩; have hbb := below_drewN HB.out mm; rw [← hww] at hbb; have HB := Lib.hid hbb; clear hww hbb) | (go_at_call 15; refine (gcd_spec _ _ _).mono ?_; rintro e w' ⟨rfl, mm, hww⟩; have hbb := below_drewN HB.out mm; rw [← hww] at hbb; have HB := Lib.hid hbb; clear hww hbb) | (go_at_call 18; refine (alive_any _).mono ?_; rintro e w' ⟨rfl, rfl⟩))
        have hn0 : ¬ n = 0 := by omega
        have hw1 : IntKind.i64.wrap (a.tdiv n) = a.tdiv n := IntWalk.i64_in _ (by omega)
        have hw2 : IntKind.i64.wrap (b.tdiv n) = b.tdiv n := IntWalk.i64_in _ (by omega)
        have hw3 : IntKind.i64.wrap (-a) = -a := IntWalk.i64_in _ (by omega)
        go_quiet ((go_at_call 16; exact Calls.quiet_of (gcd_impl _ _ _)))
        clear hw1 hw2 hw3
        go_wp2_with fail
        all_goals (go_ret; have hb := HB.out; have := hb.size; exact ⟨ret_bool (by first | rfl | (simp; done) | (simp; omega)), (by repeat' (first | (with_reducible exact Below.refl _ _) | (with_reducible assumption) | (with_reducible refine below_drewN ?_ _) | (with_reducible refine Below.drew ?_) | (with_reducible refine bl_alloc ?_ _) | (with_reducible refine bl_set ?_ ?_ _) | go_size | omega))⟩)
    · have hg := gcdOf_out hok
      rw [hn] at hg
      subst hg
      clear hok
      go_wp2_with (first | (go_at_call 16; refine (gcd_impl _ _ _).mono ?_; rintro e w' ⟨rfl, mm, rfl⟩) | (go_at_call 15; refine (gcd_spec _ _ _).mono ?_; rintro e w' ⟨rfl, mm, rfl⟩) | (go_at_call 18; refine (alive_any _).mono ?_; rintro e w' ⟨rfl, rfl⟩))
      all_goals (go_ret; have hb := HB.out; have := hb.size; exact ⟨ret_bool (by first | rfl | (simp; done) | (simp; omega)), (by repeat' (first | (with_reducible exact Below.refl _ _) | (with_reducible assumption) | (with_reducible refine below_drewN ?_ _) | (with_reducible refine Below.drew ?_) | (with_reducible refine bl_alloc ?_ _) | (with_reducible refine bl_set ?_ ?_ _) | go_size | omega))⟩)

/-! THE ROW's STEP of FnGcdOf: from the contract of the law's walk to the given statement. -/
namespace fnGcdOf
set_option maxRecDepth 100000 in
theorem lifted (os : Os) (started : os.Started) (H : Type) (enc : TypeId × Value → H) :
    ReturnsInHanded {} Try.checked os 4 .any (Rows.fnGcdOfSpec.pre6 enc Try.prog Try.f4 Rows.fnGcdOfRow.domain false) (Rows.fnGcdOfSpec.post enc Try.prog Try.f4 false true false false) := by
  refine returnsInHanded_of_change (C := Try.checked) own started (by kernel_rfl) Try.func4
    (ChangeSpec.witness6 (enc := enc) (C := Try.checked) false ⟨#[], #[.slice none 0 0], []⟩ 8 (by kernel_rfl) (by kernel_rfl) (by kernel_rfl) (by kernel_rfl)) ?_
  intro W base args ds gs before hval0 hW hcnd _
  have hval : ∀ (j : Nat) t v, Try.f4.params[j]? = some t → args[j]? = some v → Value.okWide Try.prog W .any base t v := hval0
  have hW' := hW
  obtain ⟨p, q, hA0, hV, rfl, hfz, hnd⟩ := hW
  have hA : DataW.TrodAll enc Try.prog W 0 (fun _ => true) true Try.f4.params.toList args.toList ds p := hA0
  rw [Try.params4] at hA hval
  obtain ⟨v0, vs0, d0, ds0, p0, q0, hargs, rfl, rfl, h0, r0⟩ := trodAll_cons hA
  obtain ⟨rfl, rfl, rfl⟩ := trodAll_nil r0
  obtain rfl : args = #[v0] := by cases args; simp_all
  obtain ⟨rfl, rfl⟩ := trodVars_none hV
  have k0 := h0
  have lt0 : ∀ x ∈ p0, x.block < W.heap.size := by obtain ⟨m, hm⟩ := k0; exact DataW.trod_lt m _ _ _ hm
  obtain ⟨a0, len0, cap0, rfl⟩ := okWide_slice Try.underlying24 (hval 0 24 v0 rfl rfl)
  obtain ⟨z0, w0⟩ : ∃ zs, IsRow .u8 W a0 len0 cap0 zs := by
    obtain ⟨fuel, hf⟩ := h0
    rcases open_ints Try.underlying24 Try.underlying5 (by kernel_rfl) hf with ⟨hcs, _⟩ | ⟨x, l, c, zs, hcs, _, hl, hm, hz, _, hcell, hwz⟩
    · simp [Value.cells] at hcs
      obtain ⟨rfl, rfl, rfl⟩ := hcs
      exact ⟨[], .inl ⟨rfl, rfl, rfl, rfl⟩⟩
    · simp [Value.cells] at hcs
      obtain ⟨rfl, rfl, rfl⟩ := hcs
      exact ⟨zs, .inr ⟨_, rfl, hl, hm, by simpa using hz, hcell, hwz, isRow_lt hcell⟩⟩
  clear hA0 hval0
  refine (walk W a0 len0 cap0 z0 w0).mono fun e W' ⟨he, bel⟩ => ?_
  subst he
  exact ⟨_, rfl, _, _, _, [], _, [], hW', trodAll_mk1 (shut_bool Try.underlying4 _), (trodAll_cons_mk (Below.trod laidOut (by kernel_rfl) (of_decide_eq_true (by kernel_rfl)) k0 bel lt0) trodAll_mk0), rfl, bel.frame _, fun h => by cases h⟩
end fnGcdOf

theorem fnGcdOf_holds : Rows.FnGcdOfSaid :=
  OpenClaim.holds_of_wide 4 Try.f4 rfl rfl rfl rfl rfl rfl rfl ⟨rfl, rfl, rfl, rfl, rfl⟩ rfl rfl rfl rfl rfl (by kernel_rfl) Try.func4 (by kernel_rfl)
    (of_decide_eq_true (by kernel_rfl)) (by unfold Func.isWrapper; first | (rw [if_pos (by decide +kernel)]; kernel_rfl) | (rw [if_neg (by decide +kernel)]; exact ⟨rfl, rfl⟩))
    (fun os started H enc _ => fnGcdOf.lifted os started H enc)
#print axioms fnGcdOf_holds

end Go.Proofs.Ytlcmpcjimmdcfaa

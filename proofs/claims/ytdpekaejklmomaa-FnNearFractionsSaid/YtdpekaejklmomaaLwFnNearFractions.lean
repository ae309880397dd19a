/- Fractions of chains come nearer: the last one is the fraction; two that follow each other differ by 1 in the products across; numbers below do not become less. No condition. -/
import Derived.Test.YtdpekaejklmomaaNrI
import Derived.Test.YtdpekaejklmomaaNrL
import Derived.Test.YtdpekaejklmomaaDrawCh
import Derived.Test.YtdpekaejklmomaaAlive
namespace Go.Proofs.Ytdpekaejklmomaa
open Go.ChangeShapes Go.WideShapes Go.ChangeAt Go.RowKit

attribute [local go_sem] alloc_drewN' setCell_drewN'

theorem nr_law {p q : Int} (hf : frOk p q = true) {j : Nat} (hj : j + 1 < (frChain p q).length) : ∃ t0 l0 t1 l1 D : Int, (nrL (frChain p q) (frChain p q).length).getD (j * 2) 0 = t0 ∧ (nrL (frChain p q) (frChain p q).length).getD (j * 2 + 1) 0 = l0 ∧ (nrL (frChain p q) (frChain p q).length).getD ((j + 1) * 2) 0 = t1 ∧ (nrL (frChain p q) (frChain p q).length).getD ((j + 1) * 2 + 1) 0 = l1 ∧
    ((-2000000000000 ≤ t0 ∧ t0 ≤ 2000000000000) ∧ (1 ≤ l0 ∧ l0 ≤ 1000000)) ∧ ((-2000000000000 ≤ t1 ∧ t1 ≤ 2000000000000) ∧ (1 ≤ l1 ∧ l1 ≤ 1000000)) ∧ t1 * l0 - t0 * l1 = D ∧ ((D = 1 ∧ j % 2 = 0) ∨ (D = -1 ∧ j % 2 = 1)) ∧ l0 ≤ l1 := by
  obtain ⟨a1, a2⟩ := nrL_get (frChain p q) (frChain p q).length j (by omega)
  obtain ⟨b1, b2⟩ := nrL_get (frChain p q) (frChain p q).length (j + 1) hj
  have n1 := nb_of p q (k := j) (by omega)
  have n2 := nb_of p q (k := j + 1) hj
  have d := near_det (xs := frChain p q) (k := j) hj
  have l : (cvL ((frChain p q).take (j + 1))).ll ≤ (cvL ((frChain p q).take (j + 2))).ll := by
    rw [frChain_in hf] at *
    exact near_low hf hj
  refine ⟨_, _, _, _, _, a1, a2, b1, b2, ⟨⟨n1.2.1, n1.2.2.1⟩, n1.2.2.2⟩, ⟨⟨n2.2.1, n2.2.2.1⟩, n2.2.2.2⟩, d, ?_, l⟩
  by_cases h : j % 2 = 0
  · left; rw [if_pos h]; exact ⟨rfl, h⟩
  · right; rw [if_neg h]; exact ⟨rfl, by omega⟩
theorem nr_last {p q : Int} (hf : frOk p q = true) : ∃ m, (frChain p q).length = m + 1 ∧ (nrL (frChain p q) (frChain p q).length).getD (m * 2) 0 = p ∧ (nrL (frChain p q) (frChain p q).length).getD (m * 2 + 1) 0 = q := by
  have h1 := frOk_mk hf
  have e := near_last hf
  rw [← frChain_in hf] at e
  obtain ⟨m, hm⟩ : ∃ m, (frChain p q).length = m + 1 := ⟨(chainL q (p % q)).length, by rw [frChain_in hf, chainL_pos (a := p) (b := q) (by omega)]; rfl⟩
  obtain ⟨b1, b2⟩ := nrL_get (frChain p q) (frChain p q).length m (by omega)
  rw [hm] at e
  exact ⟨m, hm, b1.trans e.1, b2.trans e.2⟩
theorem mod_odd {j : Nat} (h : j % 2 = 0) : Int.tmod ((j : Int) + 1) 2 = 1 := by rw [Int.tmod_eq_emod_of_nonneg (by omega)]; omega
theorem mod_even {j : Nat} (h : j % 2 = 1) : Int.tmod ((j : Int) + 1) 2 = 0 := by rw [Int.tmod_eq_emod_of_nonneg (by omega)]; omega
set_option maxRecDepth 100000 in
set_option maxHeartbeats 16000000 in
theorem fnNearFractions.walk (w : World) (a : Option Addr) (len cap : Nat) (zz : List Int) (hrow : IsRow .u8 w a len cap zz) :
    Calls Try.prog 12 #[.slice a len cap] w fun e w' => e = .returned (.bool true) ∧ Below w.heap.size w w' := by
  obtain ⟨hl1, hl2, -⟩ := code_of_row hrow
  have hm : (len : Int) ≤ 9223372036854775807 := by unfold maxLen at hl2; omega
  by_cases hbig : (1048576 : Int) < (len : Int)
  · clear hrow hl1 hl2
    go_enter Try.func12, Try.ntmps12
    go_wp2
    go_ret
    exact ⟨rfl, Below.refl _ _⟩
  · have HROW := Lib.hid hrow
    have HB := Lib.hid (Below.refl w.heap.size w)
    clear hl1 hl2 hrow
    go_enter Try.func12, Try.ntmps12
    go_wp2_with fail
    refine (drawnearfractions_any HROW.out).mono ?_
    rintro e w1 ⟨p, q, hA, rfl, hb⟩
    have hw := bl_behind (w := w) hb (by have hb0 := HB.out; repeat (first | (with_reducible exact hb0) | (with_reducible exact Below.refl _ _) | (with_reducible refine below_drewN ?_ _) | (with_reducible refine Below.drew ?_) | (with_reducible refine bl_alloc ?_ _))); have HB := Lib.hid hw; clear hw hb
    have hsz1 := HB.out.size
    have CI := Lib.hid (fun w' => near_impl p q w')
    have CS := Lib.hid (fun w' => near_spec p q w')
    have FV := Lib.hid (fun w' => fv_impl p q w')
    have hle := chain_le p q
    rcases hf : frOk p q
    · rw [hf] at FV
      rw [frChain_out hf] at CI CS
      simp only [List.length_nil, nrL] at CI CS
      clear hf hle hA
      go_wp2_with fail
      refine (CI.out _).mono ?_
      rintro e w2 ⟨v, rfl, rv, hb⟩
      have hw := bl_behind (w := w) hb (by have hb0 := HB.out; repeat (first | (with_reducible exact hb0) | (with_reducible exact Below.refl _ _) | (with_reducible refine below_drewN ?_ _) | (with_reducible refine Below.drew ?_) | (with_reducible refine bl_alloc ?_ _))); have bx := Blk.below (g := w1.heap.size) (t := 41) (cs := #[.int .i64 p, .int .i64 q]) (by repeat (first | (with_reducible exact Bx.out) | (with_reducible exact Blk.new _ _ _) | (with_reducible refine Blk.drewN ?_ _) | (with_reducible refine Blk.drew ?_) | (with_reducible refine Blk.alloc ?_ _))) hb (by first | (have := Bx.out.lt; first | omega | (simp; omega)) | (simp; done) | (simp; omega)); have Bx := Lib.hid bx; have HB := Lib.hid hw; obtain ⟨kx0, kx1, -, -, lx⟩ := blk2 bx; clear hb bx hw
      obtain ⟨ao, cap1, rfl, -, -, -⟩ := rv.open_
      clear rv
      go_wp2_with fail
      refine (CS.out _).mono ?_
      rintro e w3 ⟨u, rfl, ru, hb⟩
      have hw := bl_behind (w := w) hb (by have hb0 := HB.out; repeat (first | (with_reducible exact hb0) | (with_reducible exact Below.refl _ _) | (with_reducible refine below_drewN ?_ _) | (with_reducible refine Below.drew ?_) | (with_reducible refine bl_alloc ?_ _))); have bx := Blk.below (g := w1.heap.size) (t := 41) (cs := #[.int .i64 p, .int .i64 q]) (by repeat (first | (with_reducible exact Bx.out) | (with_reducible exact Blk.new _ _ _) | (with_reducible refine Blk.drewN ?_ _) | (with_reducible refine Blk.drew ?_) | (with_reducible refine Blk.alloc ?_ _))) hb (by first | (have := Bx.out.lt; first | omega | (simp; omega)) | (simp; done) | (simp; omega)); have Bx := Lib.hid bx; have HB := Lib.hid hw; obtain ⟨kx0, kx1, -, -, lx⟩ := blk2 bx; clear hb bx hw
      obtain ⟨bo, cap2, rfl, -, -, -⟩ := ru.open_
      clear ru
      go_wp2_with fail
      go_loopw [6] (fun i wr => i = .int .i64 0 ∧ wr = w3) (fun _ _ => 0)
      case atStart => exact ⟨rfl, rfl⟩
      case round =>
        obtain ⟨rfl, rfl⟩ := hrel
        go_wp2_with (first | (go_at_call 34; refine (FV.out _).mono ?_; rintro e w' ⟨rfl, mm, rfl⟩) | (go_at_call 18; refine (alive_any _).mono ?_; rintro e w' ⟨rfl, rfl⟩))
        go_ret
        have hb := HB.out
        exact ⟨rfl, (by repeat' (first | (with_reducible exact Below.refl _ _) | (with_reducible assumption) | (with_reducible refine below_drewN ?_ _) | (with_reducible refine Below.drew ?_) | (with_reducible refine bl_alloc ?_ _) | (with_reducible refine bl_set ?_ ?_ _) | go_size | omega))⟩
    · have HLW := Lib.hid (fun j hj => nr_law hf (j := j) hj)
      obtain ⟨m, hmn, hl1, hl2⟩ := nr_last hf
      have HL1 := Lib.hid hl1
      have HL2 := Lib.hid hl2
      rw [hf] at FV
      clear hf hA hl1 hl2
      generalize nrL (frChain p q) (frChain p q).length = zs at *
      generalize (frChain p q).length = n at *
      have hn1 : 1 ≤ n := by omega
      have HMN := Lib.hid hmn
      clear hmn
      go_wp2_with fail
      refine (CI.out _).mono ?_
      rintro e w2 ⟨v, rfl, rv, hb⟩
      have hsz2 := hb.size
      have hw := bl_behind (w := w) hb (by have hb0 := HB.out; repeat (first | (with_reducible exact hb0) | (with_reducible exact Below.refl _ _) | (with_reducible refine below_drewN ?_ _) | (with_reducible refine Below.drew ?_) | (with_reducible refine bl_alloc ?_ _))); have bx := Blk.below (g := w1.heap.size) (t := 41) (cs := #[.int .i64 p, .int .i64 q]) (by repeat (first | (with_reducible exact Bx.out) | (with_reducible exact Blk.new _ _ _) | (with_reducible refine Blk.drewN ?_ _) | (with_reducible refine Blk.drew ?_) | (with_reducible refine Blk.alloc ?_ _))) hb (by first | (have := Bx.out.lt; first | omega | (simp; omega)) | (simp; done) | (simp; omega)); have Bx := Lib.hid bx; have HB := Lib.hid hw; obtain ⟨kx0, kx1, -, -, lx⟩ := blk2 bx; clear hb bx hw
      have Rv := Lib.hid (rv.lower (b := w.heap.size) (by rw [World.size_alloc]; omega))
      obtain ⟨ao, cap1, rfl, hcm1, hcl1, -⟩ := rv.open_
      clear rv
      go_wp2_with fail
      refine (CS.out _).mono ?_
      rintro e w3 ⟨u, rfl, ru, hb⟩
      have hsz3 := hb.size
      have hw := bl_behind (w := w) hb (by have hb0 := HB.out; repeat (first | (with_reducible exact hb0) | (with_reducible exact Below.refl _ _) | (with_reducible refine below_drewN ?_ _) | (with_reducible refine Below.drew ?_) | (with_reducible refine bl_alloc ?_ _))); have bx := Blk.below (g := w1.heap.size) (t := 41) (cs := #[.int .i64 p, .int .i64 q]) (by repeat (first | (with_reducible exact Bx.out) | (with_reducible exact Blk.new _ _ _) | (with_reducible refine Blk.drewN ?_ _) | (with_reducible refine Blk.drew ?_) | (with_reducible refine Blk.alloc ?_ _))) hb (by first | (have := Bx.out.lt; first | omega | (simp; omega)) | (simp; done) | (simp; omega)); have rv := Row2.below (base := w.heap.size) (n := n) (v := (.slice ao n cap1)) (zs := zs) (by repeat (first | (with_reducible exact Rv.out) | (with_reducible refine Row2.drewN ?_ _) | (with_reducible refine Row2.alloc ?_ _))) hb; have Rv := Lib.hid rv; clear rv; have Bx := Lib.hid bx; have HB := Lib.hid hw; obtain ⟨kx0, kx1, -, -, lx⟩ := blk2 bx; clear hb bx hw
      have Ru := Lib.hid (ru.lower (b := w.heap.size) (by omega))
      obtain ⟨bo, cap2, rfl, hcm2, hcl2, -⟩ := ru.open_
      clear ru hsz2 hsz3
      have hn63 : (n : Int) ≤ 40 := by omega
      go_wp2_with fail
      go_loopw [6] (fun i wr => ∃ k nq : Nat, i = .int .i64 (k : Int) ∧ k ≤ n ∧ wr = w3.drewN nq) (fun i _ => n - (RowKit.intOf i).toNat)
      case atStart => exact ⟨0, 0, rfl, Nat.zero_le _, rfl⟩
      case round =>
        obtain ⟨k, nq0, rfl, hk, rfl⟩ := hrel
        have hrv := Rv.out
        obtain ⟨ao', cap', e, -, -, ho⟩ := hrv.open_
        simp only [Value.slice.injEq, true_and] at e
        obtain ⟨rfl, rfl⟩ := e
        obtain ⟨g, rfl, -, -⟩ := ho (by omega)
        have hru := Ru.out
        obtain ⟨bo', cap', e, -, -, ho2⟩ := hru.open_
        simp only [Value.slice.injEq, true_and] at e
        obtain ⟨rfl, rfl⟩ := e
        obtain ⟨g2, rfl, -, -⟩ := ho2 (by omega)
        clear ho ho2
        rcases Nat.lt_or_ge k n with hlt | hge
        · obtain ⟨ca0, ca1⟩ := row2_cells hrv hlt
          obtain ⟨cb0, cb1⟩ := row2_cells hru hlt
          have hki : (k : Int) < (n : Int) := by omega
          generalize zs.getD (k * 2) 0 = x at *
          generalize zs.getD (k * 2 + 1) 0 = y at *
          clear hrv hru HLW HL1 HL2
          go_wp2_with fail
          go_quiet (fail)
          go_wp2_with fail
          go_roundw
          case rel => exact ⟨k + 1, nq0 + nq, by go_num, by omega, by first | rfl | exact World.drewN_drewN ..⟩
          case measure => simp [RowKit.intOf]; omega
        · have e : k = n := by omega
          subst e
          clear hrv hru
          go_wp2_with (first | (go_at_call 34; refine (FV.out _).mono ?_; rintro e w' ⟨rfl, mm, rfl⟩))
          go_loopw [7] (fun i wr => ∃ j nq : Nat, i = .int .i64 ((j : Int) + 1) ∧ j + 1 ≤ k ∧ wr = (w3.alloc (.cells #[.int .i64 p, .int .i64 q] 41)).drewN nq) (fun i _ => k - (RowKit.intOf i).toNat)
          case atStart => exact ⟨0, _, rfl, by omega, by first | rfl | (simp only [alloc_drewN', World.drewN_drewN]; rfl)⟩
          case round =>
            obtain ⟨j, nq1, rfl, hj, rfl⟩ := hrel
            have hrv := (Rv.out.alloc (.cells #[.int .i64 p, .int .i64 q] 41))
            rcases Nat.lt_or_ge (j + 1) k with hlt | hge
            · obtain ⟨ca0, ca1⟩ := row2_cells hrv (show j < k by omega)
              obtain ⟨cb0, cb1⟩ := row2_cells hrv hlt
              obtain ⟨t0, l0, t1, l1, D, e0, e1, e2, e3, ⟨⟨b1, b2⟩, b3, b4⟩, ⟨⟨b5, b6⟩, b7, b8⟩, hD, hDj, hll⟩ := HLW.out j hlt
              rw [e0] at ca0
              rw [e1] at ca1
              rw [e2] at cb0
              rw [e3] at cb1
              have p1 := mul_abs b5 b6 (by omega : -1000000 ≤ l0) b4 (by omega) (by omega)
              have p2 := mul_abs b1 b2 (by omega : -1000000 ≤ l1) b8 (by omega) (by omega)
              have f1 : wrap64 (t1 * l0) = t1 * l0 := by unfold wrap64; omega
              have f2 : wrap64 (t0 * l1) = t0 * l1 := by unfold wrap64; omega
              have f3 : wrap64 (t1 * l0 - t0 * l1) = D := by rw [hD]; unfold wrap64; omega
              have f4 : IntKind.i64.wrap (t1 * l0) = t1 * l0 := IntWalk.i64_in _ (by omega)
              have f5 : IntKind.i64.wrap (t0 * l1) = t0 * l1 := IntWalk.i64_in _ (by omega)
              have f6 : IntKind.i64.wrap (t1 * l0 - t0 * l1) = D := by rw [hD]; exact IntWalk.i64_in _ (by omega)
              have hki : (j : Int) + 1 < (k : Int) := by omega
              clear e0 e1 e2 e3 hrv HLW HL1 HL2 p1 p2
              go_wp2_with fail
              go_quiet (fail)
              clear f1 f2 f3 f4 f5 f6 hD
              rcases hDj with ⟨rfl, hj2⟩ | ⟨rfl, hj2⟩
              · have hmo := mod_odd hj2
                clear hj2
                go_wp2_with fail
                go_quiet (fail)
                go_wp2_with fail
                go_roundw
                case rel => exact ⟨j + 1, _, by go_num, by omega, by first | rfl | (simp only [World.drewN_drewN]; rfl)⟩
                case measure => simp [RowKit.intOf]; omega
              · have hmo := mod_even hj2
                clear hj2
                go_wp2_with fail
                go_quiet (fail)
                go_wp2_with fail
                go_roundw
                case rel => exact ⟨j + 1, _, by go_num, by omega, by first | rfl | (simp only [World.drewN_drewN]; rfl)⟩
                case measure => simp [RowKit.intOf]; omega
            · have e : j + 1 = k := by omega
              have e' : j = m := by have := HMN.out; omega
              subst e'
              obtain ⟨ca0, ca1⟩ := row2_cells hrv (show j < k by omega)
              have hk1 : (1 : Int) ≤ (k : Int) := by omega
              have hkj : (k : Int) - 1 = (j : Int) := by omega
              have hw1 : wrap64 ((k : Int) - 1) = (j : Int) := by unfold wrap64; omega
              have hw2 : IntKind.i64.wrap ((k : Int) - 1) = (j : Int) := by rw [hkj]; exact IntWalk.i64_in _ (by omega)
              have hjk : (j : Int) < (k : Int) := by omega
              have hge' : ¬ ((j : Int) + 1 < (k : Int)) := by omega
              rw [HL1.out] at ca0
              rw [HL2.out] at ca1
              clear hrv HLW HL1 HL2 HMN e hkj
              go_wp2_with fail
              go_quiet (fail)
              go_wp2_with fail
              go_ret
              have hb := HB.out
              exact ⟨rfl, (by repeat' (first | (with_reducible exact Below.refl _ _) | (with_reducible assumption) | (with_reducible refine below_drewN ?_ _) | (with_reducible refine Below.drew ?_) | (with_reducible refine bl_alloc ?_ _) | (with_reducible refine bl_set ?_ ?_ _) | go_size | omega))⟩

/-! THE ROW's STEP of FnNearFractions: from the contract of the law's walk to the given statement. -/
namespace fnNearFractions
set_option maxRecDepth 100000 in
theorem lifted (os : Os) (started : os.Started) (H : Type) (enc : TypeId × Value → H) :
    ReturnsInHanded {} Try.checked os 12 .any (Rows.fnNearFractionsSpec.pre6 enc Try.prog Try.f12 Rows.fnNearFractionsRow.domain false) (Rows.fnNearFractionsSpec.post enc Try.prog Try.f12 false true false false) := by
  refine returnsInHanded_of_change (C := Try.checked) own started (by kernel_rfl) Try.func12
    (ChangeSpec.witness6 (enc := enc) (C := Try.checked) false ⟨#[], #[.slice none 0 0], []⟩ 8 (by kernel_rfl) (by kernel_rfl) (by kernel_rfl) (by kernel_rfl)) ?_
  intro W base args ds gs before hval0 hW hcnd _
  have hval : ∀ (j : Nat) t v, Try.f12.params[j]? = some t → args[j]? = some v → Value.okWide Try.prog W .any base t v := hval0
  have hW' := hW
  obtain ⟨p, q, hA0, hV, rfl, hfz, hnd⟩ := hW
  have hA : DataW.TrodAll enc Try.prog W 0 (fun _ => true) true Try.f12.params.toList args.toList ds p := hA0
  rw [Try.params12] at hA hval
  obtain ⟨v0, vs0, d0, ds0, p0, q0, hargs, rfl, rfl, h0, r0⟩ := trodAll_cons hA
  obtain ⟨rfl, rfl, rfl⟩ := trodAll_nil r0
  obtain rfl : args = #[v0] := by cases args; simp_all
  obtain ⟨rfl, rfl⟩ := trodVars_none hV
  have k0 := h0
  have lt0 : ∀ x ∈ p0, x.block < W.heap.size := by obtain ⟨m, hm⟩ := k0; exact DataW.trod_lt m _ _ _ hm
  obtain ⟨a0, len0, cap0, rfl⟩ := okWide_slice Try.underlying24 (hval 0 24 v0 rfl rfl)
  obtain ⟨z0, w0⟩ : ∃ zs, IsRow .u8 W a0 len0 cap0 zs := by
    obtain ⟨fuel, hf⟩ := h0
    rcases open_ints Try.underlying24 Try.underlying5 (by kernel_rfl) hf with ⟨hcs, _⟩ | ⟨x, l, c, zs, hcs, _, hl, hm, hz, _, hcell, hwz⟩
    · simp [Value.cells] at hcs
      obtain ⟨rfl, rfl, rfl⟩ := hcs
      exact ⟨[], .inl ⟨rfl, rfl, rfl, rfl⟩⟩
    · simp [Value.cells] at hcs
      obtain ⟨rfl, rfl, rfl⟩ := hcs
      exact ⟨zs, .inr ⟨_, rfl, hl, hm, by simpa using hz, hcell, hwz, isRow_lt hcell⟩⟩
  clear hA0 hval0
  refine (walk W a0 len0 cap0 z0 w0).mono fun e W' ⟨he, bel⟩ => ?_
  subst he
  exact ⟨_, rfl, _, _, _, [], _, [], hW', trodAll_mk1 (shut_bool Try.underlying4 _), (trodAll_cons_mk (Below.trod laidOut (by kernel_rfl) (of_decide_eq_true (by kernel_rfl)) k0 bel lt0) trodAll_mk0), rfl, bel.frame _, fun h => by cases h⟩
end fnNearFractions

theorem fnNearFractions_holds : Rows.FnNearFractionsSaid :=
  OpenClaim.holds_of_wide 12 Try.f12 rfl rfl rfl rfl rfl rfl rfl ⟨rfl, rfl, rfl, rfl, rfl⟩ rfl rfl rfl rfl rfl (by kernel_rfl) Try.func12 (by kernel_rfl)
    (of_decide_eq_true (by kernel_rfl)) (by unfold Func.isWrapper; first | (rw [if_pos (by decide +kernel)]; kernel_rfl) | (rw [if_neg (by decide +kernel)]; exact ⟨rfl, rfl⟩))
    (fun os started H enc _ => fnNearFractions.lifted os started H enc)
#print axioms fnNearFractions_holds

end Go.Proofs.Ytdpekaejklmomaa

/- Both residues are right: it is less than the product of both moduli, and has both residues. No condition. -/
import Derived.Test.YtdpekaejklmomaaDrawB
import Derived.Test.YtdpekaejklmomaaAlive
namespace Go.Proofs.Ytdpekaejklmomaa
open Go.ChangeShapes Go.WideShapes Go.ChangeAt Go.RowKit

theorem br_facts {a m b n x : Int} (h : BrIs a m b n x) (hok : brOk a m b n) : 0 ≤ x ∧ x < m * n ∧ x % m = a ∧ x % n = b ∧ BrIs b n a m x := by
  rcases h with ⟨-, k, hk, ⟨hf, hfirst⟩, rfl⟩ | ⟨hn, -⟩
  · have hok' := hok
    obtain ⟨h1, h2, h3, h4, h5, h6, h7, h8, h9⟩ := hok
    have p0 : 0 ≤ m * k := Int.mul_nonneg (by omega) (by omega)
    have p1 : m * (k + 1) ≤ m * n := Int.mul_le_mul_of_nonneg_left (by omega) (by omega)
    rw [Int.mul_add, Int.mul_one] at p1
    have e1 : (a + m * k) % m = a := by rw [Int.add_mul_emod_self_left, Int.emod_eq_of_lt h5 h6]
    have d1 := Int.mul_ediv_add_emod (a + m * k) n
    rw [hf] at d1
    have dq : 0 ≤ (a + m * k) / n := Int.ediv_nonneg (by omega) (by omega)
    refine ⟨by omega, by omega, e1, hf, .inl ⟨⟨h3, h4, h1, h2, h7, h8, h5, h6, by rw [Int.gcd_comm]; exact h9⟩, ((a + m * k) / n).toNat, ?_, ⟨?_, ?_⟩, ?_⟩⟩
    · rw [Int.toNat_of_nonneg dq]
      refine Int.ediv_lt_of_lt_mul (by omega) ?_
      omega
    · rw [Int.toNat_of_nonneg dq, show b + n * ((a + m * k) / n) = a + m * k by omega]; exact e1
    · intro j hj hja
      have hjz : (j : Int) + 1 ≤ (a + m * k) / n := by omega
      have hj2 := Int.mul_le_mul_of_nonneg_left hjz (show 0 ≤ n by omega)
      rw [Int.mul_add, Int.mul_one] at hj2
      have j0 : 0 ≤ n * (j : Int) := Int.mul_nonneg (by omega) (by omega)
      have d2 := Int.mul_ediv_add_emod (b + n * j) m
      rw [hja] at d2
      have i0 : 0 ≤ (b + n * j) / m := Int.ediv_nonneg (by omega) (by omega)
      have hi : ((b + n * j) / m).toNat < k := by
        rcases Nat.lt_or_ge ((b + n * j) / m).toNat k with h' | h'
        · exact h'
        · have := Int.mul_le_mul_of_nonneg_left (show (k : Int) ≤ (b + n * j) / m by omega) (show 0 ≤ m by omega); omega
      refine hfirst _ hi ?_
      rw [Int.toNat_of_nonneg i0, show a + m * ((b + n * j) / m) = b + n * j by omega, Int.add_mul_emod_self_left, Int.emod_eq_of_lt h7 h8]
    · rw [Int.toNat_of_nonneg dq]; omega
  · exact absurd hok hn
set_option maxHeartbeats 4000000 in
theorem fnBothResidues.walk (w : World) (a : Option Addr) (len cap : Nat) (zs : List Int) (hrow : IsRow .u8 w a len cap zs) :
    Calls Try.prog 8 #[.slice a len cap] w fun e w' => e = .returned (.bool true) ∧ Below w.heap.size w w' := by
  obtain ⟨hl1, hl2, -⟩ := code_of_row hrow
  have hm : (len : Int) ≤ 9223372036854775807 := by unfold maxLen at hl2; omega
  by_cases hbig : (1048576 : Int) < (len : Int)
  · clear hrow hl1 hl2
    go_enter Try.func8, Try.ntmps8
    go_wp2
    go_ret
    exact ⟨rfl, Below.refl _ _⟩
  · go_enter Try.func8, Try.ntmps8
    go_wp2_with fail
    refine (drawbothresidues_any hrow).mono ?_
    rintro e w1 ⟨a, m, b, n, a0, a1, m0, m1, b0, b1, n0, n1, rfl, hb⟩
    have HB := Lib.hid hb
    clear hb hrow hl1 hl2
    go_wp2_with fail
    refine (br_impl _ _ _ _ _).mono ?_
    rintro e w2 ⟨⟨x, rfl, hx⟩, k1, rfl⟩
    have HX := Lib.hid hx
    clear hx
    go_wp2_with fail
    refine (br_spec _ _ _ _ _).mono ?_
    rintro e w3 ⟨⟨y, rfl, hy⟩, k2, rfl⟩
    obtain rfl := BrIs.only HX.out hy
    clear hy
    by_cases hok : brOk a m b n
    · obtain ⟨x0, x1, x2, x3, x4⟩ := br_facts HX.out hok
      obtain ⟨h1, h2, h3, h4, h5, h6, h7, h8, h9⟩ := hok
      have mn : 0 ≤ m * n ∧ m * n ≤ 1001 * 40 := ⟨Int.mul_nonneg (by omega) (by omega), Int.mul_le_mul m1 n1 (by omega) (by omega)⟩
      obtain ⟨mn0, mn1⟩ := mn
      have HX4 := Lib.hid x4
      clear h9 x4
      go_wp2_with fail
      refine (br_impl _ _ _ _ _).mono ?_
      rintro e w4 ⟨⟨y, rfl, hy⟩, k3, rfl⟩
      obtain rfl := BrIs.only HX4.out hy
      clear hy
      go_wp2_with (first | (go_at_call 18; refine (alive_any _).mono ?_; rintro e w' ⟨rfl, rfl⟩))
      go_ret
      have hb := HB.out
      have := hb.size
      exact ⟨ret_bool (by first | rfl | (simp; done) | (simp; omega)), (by repeat' (first | (with_reducible exact Below.refl _ _) | (with_reducible assumption) | (with_reducible refine below_drewN ?_ _) | (with_reducible refine Below.drew ?_) | (with_reducible refine bl_alloc ?_ _) | (with_reducible refine bl_set ?_ ?_ _) | go_size | omega))⟩
    · have hx := HX.out
      have hx1 : x = -1 := by
        rcases hx with ⟨h, -⟩ | ⟨-, h⟩
        · exact absurd h hok
        · exact h
      subst hx1
      clear hok hx
      go_wp2_with (first | (go_at_call 18; refine (alive_any _).mono ?_; rintro e w' ⟨rfl, rfl⟩))
      go_ret
      have hb := HB.out
      have := hb.size
      exact ⟨ret_bool (by first | rfl | (simp; done) | (simp; omega)), (by repeat' (first | (with_reducible exact Below.refl _ _) | (with_reducible assumption) | (with_reducible refine below_drewN ?_ _) | (with_reducible refine Below.drew ?_) | (with_reducible refine bl_alloc ?_ _) | (with_reducible refine bl_set ?_ ?_ _) | go_size | omega))⟩

/-! THE ROW's STEP of FnBothResidues: from the contract of the law's walk to the given statement. -/
namespace fnBothResidues
set_option maxRecDepth 100000 in
theorem lifted (os : Os) (started : os.Started) (H : Type) (enc : TypeId × Value → H) :
    ReturnsInHanded {} Try.checked os 8 .any (Rows.fnBothResiduesSpec.pre6 enc Try.prog Try.f8 Rows.fnBothResiduesRow.domain false) (Rows.fnBothResiduesSpec.post enc Try.prog Try.f8 false true false false) := by
  refine returnsInHanded_of_change (C := Try.checked) own started (by kernel_rfl) Try.func8
    (ChangeSpec.witness6 (enc := enc) (C := Try.checked) false ⟨#[], #[.slice none 0 0], []⟩ 8 (by kernel_rfl) (by kernel_rfl) (by kernel_rfl) (by kernel_rfl)) ?_
  intro W base args ds gs before hval0 hW hcnd _
  have hval : ∀ (j : Nat) t v, Try.f8.params[j]? = some t → args[j]? = some v → Value.okWide Try.prog W .any base t v := hval0
  have hW' := hW
  obtain ⟨p, q, hA0, hV, rfl, hfz, hnd⟩ := hW
  have hA : DataW.TrodAll enc Try.prog W 0 (fun _ => true) true Try.f8.params.toList args.toList ds p := hA0
  rw [Try.params8] at hA hval
  obtain ⟨v0, vs0, d0, ds0, p0, q0, hargs, rfl, rfl, h0, r0⟩ := trodAll_cons hA
  obtain ⟨rfl, rfl, rfl⟩ := trodAll_nil r0
  obtain rfl : args = #[v0] := by cases args; simp_all
  obtain ⟨rfl, rfl⟩ := trodVars_none hV
  have k0 := h0
  have lt0 : ∀ x ∈ p0, x.block < W.heap.size := by obtain ⟨m, hm⟩ := k0; exact DataW.trod_lt m _ _ _ hm
  obtain ⟨a0, len0, cap0, rfl⟩ := okWide_slice Try.underlying24 (hval 0 24 v0 rfl rfl)
  obtain ⟨z0, w0⟩ : ∃ zs, IsRow .u8 W a0 len0 cap0 zs := by
    obtain ⟨fuel, hf⟩ := h0
    rcases open_ints Try.underlying24 Try.underlying5 (by kernel_rfl) hf with ⟨hcs, _⟩ | ⟨x, l, c, zs, hcs, _, hl, hm, hz, _, hcell, hwz⟩
    · simp [Value.cells] at hcs
      obtain ⟨rfl, rfl, rfl⟩ := hcs
      exact ⟨[], .inl ⟨rfl, rfl, rfl, rfl⟩⟩
    · simp [Value.cells] at hcs
      obtain ⟨rfl, rfl, rfl⟩ := hcs
      exact ⟨zs, .inr ⟨_, rfl, hl, hm, by simpa using hz, hcell, hwz, isRow_lt hcell⟩⟩
  clear hA0 hval0
  refine (walk W a0 len0 cap0 z0 w0).mono fun e W' ⟨he, bel⟩ => ?_
  subst he
  exact ⟨_, rfl, _, _, _, [], _, [], hW', trodAll_mk1 (shut_bool Try.underlying4 _), (trodAll_cons_mk (Below.trod laidOut (by kernel_rfl) (of_decide_eq_true (by kernel_rfl)) k0 bel lt0) trodAll_mk0), rfl, bel.frame _, fun h => by cases h⟩
end fnBothResidues

theorem fnBothResidues_holds : Rows.FnBothResiduesSaid :=
  OpenClaim.holds_of_wide 8 Try.f8 rfl rfl rfl rfl rfl rfl rfl ⟨rfl, rfl, rfl, rfl, rfl⟩ rfl rfl rfl rfl rfl (by kernel_rfl) Try.func8 (by kernel_rfl)
    (of_decide_eq_true (by kernel_rfl)) (by unfold Func.isWrapper; first | (rw [if_pos (by decide +kernel)]; kernel_rfl) | (rw [if_neg (by decide +kernel)]; exact ⟨rfl, rfl⟩))
    (fun os started H enc _ => fnBothResidues.lifted os started H enc)
#print axioms fnBothResidues_holds

end Go.Proofs.Ytdpekaejklmomaa

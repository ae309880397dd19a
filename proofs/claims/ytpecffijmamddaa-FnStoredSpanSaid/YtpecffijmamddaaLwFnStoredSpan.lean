/- Spans prove stored fractions: if the span of a fraction proves a stored number, it is the stored number nearest to the fraction. No condition. -/
import Derived.Test.YtpecffijmamddaaFs
import Derived.Test.YtpecffijmamddaaDrawFo
import Derived.Test.YtpecffijmamddaaSpan2
import Derived.Test.YtpecffijmamddaaAlive
namespace Go.Proofs.Ytpecffijmamddaa
open Go.ChangeShapes Go.WideShapes Go.ChangeAt Go.RowKit

theorem rnd_mono {x y B : Int} (hB : 1 ≤ B) (h : x ≤ y) : rnd x B ≤ rnd y B := by
  have h1 := Int.ediv_le_ediv (show (0 : Int) < B by omega) h
  unfold rnd
  generalize x / B = D at *
  generalize y / B = E at *
  rcases (by omega : D = E ∨ D + 1 ≤ E) with rfl | h2
  · generalize D * B = P at *
    split <;> split <;> omega
  · split <;> split <;> omega
theorem sppB_mk {a b p q n : Int} (h : sppB a b p q n = true) : spB a b = true ∧ fitB p q n = true ∧ rnd a (2 ^ (28 - q).toNat) = n ∧ rnd b (2 ^ (28 - q).toNat) = n := by
  unfold sppB at h
  simp only [Bool.and_eq_true, decide_eq_true_eq] at h
  exact ⟨h.1.1.1, h.1.1.2, h.1.2, h.2⟩
theorem sppb_impl {a b p q n : Int} {o : Bool} (h : sppB a b p q n = o) (w : World) : Calls Try.prog 19 #[.agg #[.int .i64 a, .int .i64 b], .agg #[.int .i64 p, .int .i64 q], .int .i64 n] w fun e w' => e = .returned (.bool o) ∧ Below w.heap.size w w' := h ▸ spp_impl a b p q n w
theorem rnd_scale {a b k : Int} (hk : 1 ≤ k) : rnd (a * k) (b * k) = rnd a b := by
  unfold rnd
  rw [Int.mul_ediv_mul_of_pos_left _ _ (by omega)]
  have e : a * k - a / b * (b * k) = (a - a / b * b) * k := by rw [Int.sub_mul, Int.mul_assoc]
  rw [e]
  generalize a - a / b * b = r
  have h1 : b * k < 2 * (r * k) ↔ b < 2 * r := by
    rw [← Int.mul_assoc]
    exact Int.mul_lt_mul_right (by omega)
  have h2 : 2 * (r * k) = b * k ↔ 2 * r = b := by
    rw [← Int.mul_assoc]
    exact Int.mul_eq_mul_right_iff (by omega)
  simp only [h1, h2]
theorem span_rnd {q a d : Int} (h3 : 0 ≤ q) (h4 : q ≤ 16) (hd : 1 ≤ d) : rnd (a * 268435456 / d) (2 ^ (28 - q).toNat) ≤ frV q a d ∧ frV q a d ≤ rnd (-(-(a * 268435456) / d)) (2 ^ (28 - q).toNat) := by
  obtain ⟨v1, v2⟩ := p2_bd (k := 28 - q) (by omega) (by omega)
  have e : a * 2 ^ q.toNat * 2 ^ (28 - q).toNat = a * 268435456 := by
    rw [Int.mul_assoc, ← Int.pow_add, show q.toNat + (28 - q).toNat = 28 by omega]
    rfl
  have hf : frV q a d = rnd (a * 268435456) (2 ^ (28 - q).toNat * d) := by
    unfold frV
    rw [← rnd_scale (a := a * 2 ^ q.toNat) (b := d) v1, e, Int.mul_comm d]
  generalize (2 : Int) ^ (28 - q).toNat = B at *
  generalize a * 268435456 = t at *
  have hB : 1 ≤ B * d := by
    have := Int.mul_le_mul v1 hd (by omega) (by omega)
    omega
  have d1 := ediv_bd (a := t) (show 0 < d by omega)
  have d2 := ediv_bd (a := -t) (show 0 < d by omega)
  rw [hf, ← rnd_scale (a := t / d) (b := B) hd, ← rnd_scale (a := -(-t / d)) (b := B) hd]
  have e3 : -(-t / d) * d = -(-t / d * d) := Int.neg_mul _ _
  exact ⟨rnd_mono hB d1.1, rnd_mono hB (by rw [e3]; omega)⟩
theorem span_no {p q a d lo hi m : Int} (h3 : 0 ≤ q) (h4 : q ≤ 16) (hd : 1 ≤ d) (hlo : lo = a * 268435456 / d) (hhi : hi = -(-(a * 268435456) / d)) (hm : m ≠ frV q a d) : sppB lo hi p q m = false := by
  cases h : sppB lo hi p q m with
  | false => rfl
  | true =>
    obtain ⟨-, -, k3, k4⟩ := sppB_mk h
    have := span_rnd (a := a) h3 h4 hd
    rw [← hlo, ← hhi, k3, k4] at this
    omega
set_option maxHeartbeats 4000000 in
theorem fnStoredSpan.walk (w : World) (a : Option Addr) (len cap : Nat) (zs : List Int) (hrow : IsRow .u8 w a len cap zs) :
    Calls Try.prog 9 #[.slice a len cap] w fun e w' => e = .returned (.bool true) ∧ Below w.heap.size w w' := by
  obtain ⟨hl1, hl2, -⟩ := code_of_row hrow
  have hm : (len : Int) ≤ 9223372036854775807 := by unfold maxLen at hl2; omega
  by_cases hbig : (1048576 : Int) < (len : Int)
  · clear hrow hl1 hl2
    go_enter Try.func9, Try.ntmps9
    go_wp2
    go_ret
    exact ⟨rfl, Below.refl _ _⟩
  · go_enter Try.func9, Try.ntmps9
    go_wp2_with fail
    refine (drawfractionof_any hrow).mono ?_
    rintro e w1 ⟨p, q, a, d, ⟨p0, p1⟩, ⟨q0, q1⟩, ⟨a0, a1⟩, ⟨d0, d1⟩, rfl, hb⟩
    have HB := Lib.hid hb
    clear hb hrow hl1 hl2
    by_cases hc : fmtB p q = true ∧ -1099511627776 ≤ a ∧ a ≤ 1099511627776 ∧ 1 ≤ d ∧ d ≤ 1099511627776
    · obtain ⟨hv, c1, c2, c3, c4⟩ := hc
      obtain ⟨h1, h2, h3, h4⟩ := fmtB_mk hv
      obtain ⟨b1, b2⟩ := pw_bd h1 h2 h3 h4
      obtain ⟨x, hx, x0, x1⟩ : ∃ x, cutV p q (frV q a d) = x ∧ -pw p q ≤ x ∧ x ≤ pw p q - 1 := ⟨_, rfl, by unfold cutV; omega, by unfold cutV; omega⟩
      have HI := Lib.hid (fun w => fo_impl_in p q a d w h1 h2 h3 h4 c1 c2 c3 c4)
      have HS := Lib.hid (fun w => fo_spec_in p q a d w h1 h2 h3 h4 c1 c2 c3 c4)
      rw [hx] at HI HS
      go_wp2_with fail
      refine (HI.out _).mono ?_
      rintro e w2 ⟨rfl, hb⟩
      (repeat (replace hb := undrew hb)); have bf := (Blk.new _ _ _).below hb (by simp); (try rw [World.size_alloc] at bf); have Bf := Lib.hid bf; obtain ⟨kf0, kf1, -, -, lf⟩ := blk2 bf; clear bf; (repeat (replace hb := unalloc hb)); have HB := Lib.hid (HB.out.trans (hb.mono HB.out.size)); clear hb
      go_wp2_with fail
      refine (HS.out _).mono ?_
      rintro e w3 ⟨rfl, hb⟩
      (repeat (replace hb := undrew hb)); (repeat (replace hb := unalloc hb)); have bf := Bf.out.below hb Bf.out.lt; obtain ⟨kf0, kf1, -, -, lf⟩ := blk2 bf; have Bf := Lib.hid bf; clear bf; have HB := Lib.hid (HB.out.trans (hb.mono HB.out.size)); clear hb
      go_wp2_with fail
      refine (fs_impl _ _ _ (by omega) (by omega)).mono ?_
      rintro e w4 ⟨lo, hi, o, rfl, ho, hb⟩
      (repeat (replace hb := undrew hb)); (repeat (replace hb := unalloc hb)); have bf := Bf.out.below hb Bf.out.lt; obtain ⟨kf0, kf1, -, -, lf⟩ := blk2 bf; have Bf := Lib.hid bf; clear bf; have HB := Lib.hid (HB.out.trans (hb.mono HB.out.size)); clear hb
      cases o
      · go_wp2_with fail
        go_ret; have hb := HB.out; have := hb.size; exact ⟨ret_bool (by first | rfl | (simp; done) | (simp; omega)), (by repeat' (first | (with_reducible exact Below.refl _ _) | (with_reducible assumption) | (with_reducible refine below_drewN ?_ _) | (with_reducible refine Below.drew ?_) | (with_reducible refine bl_alloc ?_ _) | (with_reducible refine bl_set ?_ ?_ _) | go_size | omega))⟩
      · obtain ⟨-, hlo, hhi⟩ := ho rfl
        cases hok : (x == frV q a d)
        · go_wp2_with fail
          go_ret; have hb := HB.out; have := hb.size; exact ⟨ret_bool (by first | rfl | (simp; done) | (simp; omega)), (by repeat' (first | (with_reducible exact Below.refl _ _) | (with_reducible assumption) | (with_reducible refine below_drewN ?_ _) | (with_reducible refine Below.drew ?_) | (with_reducible refine bl_alloc ?_ _) | (with_reducible refine bl_set ?_ ?_ _) | go_size | omega))⟩
        · have he : x = frV q a d := by simpa using hok
          have N1 := Lib.hid (span_no (p := p) (m := x + 1) h3 h4 c3 hlo hhi (by omega))
          have N2 := Lib.hid (span_no (p := p) (m := x - 1) h3 h4 c3 hlo hhi (by omega))
          clear hlo hhi he ho
          go_wp2_with fail
          (with_reducible refine Calls.mono (sppb_impl N1.out _) ?_)
          rintro e w5 ⟨rfl, hb⟩
          (repeat (replace hb := undrew hb)); have bs := (Blk.new _ _ _).below hb (by simp); (try rw [World.size_alloc] at bs); have Bs := Lib.hid bs; obtain ⟨ks0, ks1, -, -, ls⟩ := blk2 bs; clear bs; (repeat (replace hb := unalloc hb)); have bf := Bf.out.below hb Bf.out.lt; obtain ⟨kf0, kf1, -, -, lf⟩ := blk2 bf; have Bf := Lib.hid bf; clear bf; have HB := Lib.hid (HB.out.trans (hb.mono HB.out.size)); clear hb
          go_wp2_with fail
          (with_reducible refine Calls.mono (sppb_impl N2.out _) ?_)
          rintro e w6 ⟨rfl, hb⟩
          (repeat (replace hb := undrew hb)); (repeat (replace hb := unalloc hb)); have bf := Bf.out.below hb Bf.out.lt; obtain ⟨kf0, kf1, -, -, lf⟩ := blk2 bf; have Bf := Lib.hid bf; clear bf; have bs := Bs.out.below hb Bs.out.lt; obtain ⟨ks0, ks1, -, -, ls⟩ := blk2 bs; have Bs := Lib.hid bs; clear bs; have HB := Lib.hid (HB.out.trans (hb.mono HB.out.size)); clear hb
          go_wp2_with fail
          go_ret; have hb := HB.out; have := hb.size; exact ⟨ret_bool (by first | rfl | (simp; done) | (simp; omega)), (by repeat' (first | (with_reducible exact Below.refl _ _) | (with_reducible assumption) | (with_reducible refine below_drewN ?_ _) | (with_reducible refine Below.drew ?_) | (with_reducible refine bl_alloc ?_ _) | (with_reducible refine bl_set ?_ ?_ _) | go_size | omega))⟩
    · go_wp2_with fail
      refine (fo_impl_out _ _ _ _ _ hc).mono ?_
      rintro e w2 ⟨rfl, hb⟩
      (repeat (replace hb := undrew hb)); have bf := (Blk.new _ _ _).below hb (by simp); (try rw [World.size_alloc] at bf); have Bf := Lib.hid bf; obtain ⟨kf0, kf1, -, -, lf⟩ := blk2 bf; clear bf; (repeat (replace hb := unalloc hb)); have HB := Lib.hid (HB.out.trans (hb.mono HB.out.size)); clear hb
      go_wp2_with fail
      refine (fo_spec_out _ _ _ _ _ hc).mono ?_
      rintro e w3 ⟨rfl, hb⟩
      (repeat (replace hb := undrew hb)); (repeat (replace hb := unalloc hb)); have bf := Bf.out.below hb Bf.out.lt; obtain ⟨kf0, kf1, -, -, lf⟩ := blk2 bf; have Bf := Lib.hid bf; clear bf; have HB := Lib.hid (HB.out.trans (hb.mono HB.out.size)); clear hb
      go_wp2_with fail
      refine (fs_impl _ _ _ (by omega) (by omega)).mono ?_
      rintro e w4 ⟨lo, hi, o, rfl, ho, hb⟩
      (repeat (replace hb := undrew hb)); (repeat (replace hb := unalloc hb)); have bf := Bf.out.below hb Bf.out.lt; obtain ⟨kf0, kf1, -, -, lf⟩ := blk2 bf; have Bf := Lib.hid bf; clear bf; have HB := Lib.hid (HB.out.trans (hb.mono HB.out.size)); clear hb
      cases o
      all_goals
        go_wp2_with fail
        go_ret; have hb := HB.out; have := hb.size; exact ⟨ret_bool (by first | rfl | (simp; done) | (simp; omega)), (by repeat' (first | (with_reducible exact Below.refl _ _) | (with_reducible assumption) | (with_reducible refine below_drewN ?_ _) | (with_reducible refine Below.drew ?_) | (with_reducible refine bl_alloc ?_ _) | (with_reducible refine bl_set ?_ ?_ _) | go_size | omega))⟩

/-! THE ROW's STEP of FnStoredSpan: from the contract of the law's walk to the given statement. -/
namespace fnStoredSpan
set_option maxRecDepth 100000 in
theorem lifted (os : Os) (started : os.Started) (H : Type) (enc : TypeId × Value → H) :
    ReturnsInHanded {} Try.checked os 9 .any (Rows.fnStoredSpanSpec.pre6 enc Try.prog Try.f9 Rows.fnStoredSpanRow.domain false) (Rows.fnStoredSpanSpec.post enc Try.prog Try.f9 false true false false) := by
  refine returnsInHanded_of_change (C := Try.checked) own started (by kernel_rfl) Try.func9
    (ChangeSpec.witness6 (enc := enc) (C := Try.checked) false ⟨#[], #[.slice none 0 0], []⟩ 8 (by kernel_rfl) (by kernel_rfl) (by kernel_rfl) (by kernel_rfl)) ?_
  intro W base args ds gs before hval0 hW hcnd _
  have hval : ∀ (j : Nat) t v, Try.f9.params[j]? = some t → args[j]? = some v → Value.okWide Try.prog W .any base t v := hval0
  have hW' := hW
  obtain ⟨p, q, hA0, hV, rfl, hfz, hnd⟩ := hW
  have hA : DataW.TrodAll enc Try.prog W 0 (fun _ => true) true Try.f9.params.toList args.toList ds p := hA0
  rw [Try.params9] at hA hval
  obtain ⟨v0, vs0, d0, ds0, p0, q0, hargs, rfl, rfl, h0, r0⟩ := trodAll_cons hA
  obtain ⟨rfl, rfl, rfl⟩ := trodAll_nil r0
  obtain rfl : args = #[v0] := by cases args; simp_all
  obtain ⟨rfl, rfl⟩ := trodVars_none hV
  have k0 := h0
  have lt0 : ∀ x ∈ p0, x.block < W.heap.size := by obtain ⟨m, hm⟩ := k0; exact DataW.trod_lt m _ _ _ hm
  obtain ⟨a0, len0, cap0, rfl⟩ := okWide_slice Try.underlying23 (hval 0 23 v0 rfl rfl)
  obtain ⟨z0, w0⟩ : ∃ zs, IsRow .u8 W a0 len0 cap0 zs := by
    obtain ⟨fuel, hf⟩ := h0
    rcases open_ints Try.underlying23 Try.underlying5 (by kernel_rfl) hf with ⟨hcs, _⟩ | ⟨x, l, c, zs, hcs, _, hl, hm, hz, _, hcell, hwz⟩
    · simp [Value.cells] at hcs
      obtain ⟨rfl, rfl, rfl⟩ := hcs
      exact ⟨[], .inl ⟨rfl, rfl, rfl, rfl⟩⟩
    · simp [Value.cells] at hcs
      obtain ⟨rfl, rfl, rfl⟩ := hcs
      exact ⟨zs, .inr ⟨_, rfl, hl, hm, by simpa using hz, hcell, hwz, isRow_lt hcell⟩⟩
  clear hA0 hval0
  refine (walk W a0 len0 cap0 z0 w0).mono fun e W' ⟨he, bel⟩ => ?_
  subst he
  exact ⟨_, rfl, _, _, _, [], _, [], hW', trodAll_mk1 (shut_bool Try.underlying4 _), (trodAll_cons_mk (Below.trod laidOut (by kernel_rfl) (of_decide_eq_true (by kernel_rfl)) k0 bel lt0) trodAll_mk0), rfl, bel.frame _, fun h => by cases h⟩
end fnStoredSpan

theorem fnStoredSpan_holds : Rows.FnStoredSpanSaid :=
  OpenClaim.holds_of_wide 9 Try.f9 rfl rfl rfl rfl rfl rfl rfl ⟨rfl, rfl, rfl, rfl, rfl⟩ rfl rfl rfl rfl rfl (by kernel_rfl) Try.func9 (by kernel_rfl)
    (of_decide_eq_true (by kernel_rfl)) (by unfold Func.isWrapper; first | (rw [if_pos (by decide +kernel)]; kernel_rfl) | (rw [if_neg (by decide +kernel)]; exact ⟨rfl, rfl⟩))
    (fun os started H enc _ => fnStoredSpan.lifted os started H enc)
#print axioms fnStoredSpan_holds

end Go.Proofs.Ytpecffijmamddaa

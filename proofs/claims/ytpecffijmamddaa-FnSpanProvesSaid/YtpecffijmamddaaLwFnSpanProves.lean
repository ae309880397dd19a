/- Spans prove what is stored: both ends are at most half of a step away; a span that proves a number proves no other one, and every part of it does, too. No condition. -/
import Derived.Test.YtpecffijmamddaaDrawSn
import Derived.Test.YtpecffijmamddaaSpan2
import Derived.Test.YtpecffijmamddaaAlive
namespace Go.Proofs.Ytpecffijmamddaa
open Go.ChangeShapes Go.WideShapes Go.ChangeAt Go.RowKit

theorem rnd_near {a B n : Int} (hB : 1 ≤ B) (h : rnd a B = n) : 2 * (n * B - a) ≤ B ∧ 2 * (a - n * B) ≤ B := by
  have d1 := Int.emod_nonneg a (b := B) (by omega)
  have d2 := Int.emod_lt_of_pos a (b := B) (by omega)
  have d3 := Int.emod_def a B
  have d4 := Int.mul_comm (a / B) B
  unfold rnd at h
  generalize a / B = D at *
  split at h
  · subst h
    rw [Int.add_mul, Int.one_mul]
    omega
  · subst h
    omega
theorem rnd_mono {x y B : Int} (hB : 1 ≤ B) (h : x ≤ y) : rnd x B ≤ rnd y B := by
  have h1 := Int.ediv_le_ediv (show (0 : Int) < B by omega) h
  unfold rnd
  generalize x / B = D at *
  generalize y / B = E at *
  rcases (by omega : D = E ∨ D + 1 ≤ E) with rfl | h2
  · generalize D * B = P at *
    split <;> split <;> omega
  · split <;> split <;> omega
theorem sppB_mk {a b p q n : Int} (h : sppB a b p q n = true) : spB a b = true ∧ fitB p q n = true ∧ rnd a (2 ^ (28 - q).toNat) = n ∧ rnd b (2 ^ (28 - q).toNat) = n := by
  unfold sppB at h
  simp only [Bool.and_eq_true, decide_eq_true_eq] at h
  exact ⟨h.1.1.1, h.1.1.2, h.1.2, h.2⟩
theorem sppB_next {a b p q n : Int} (h : sppB a b p q n = true) : sppB a b p q (n + 1) = false := by
  obtain ⟨-, -, h3, -⟩ := sppB_mk h
  unfold sppB
  rw [h3, decide_eq_false (show ¬ n = n + 1 by omega)]
  simp
theorem sppB_part {a b p q n m : Int} (hB : (1 : Int) ≤ 2 ^ (28 - q).toNat) (h : sppB a b p q n = true) (h1 : a ≤ m) (h2 : m ≤ b) : sppB m m p q n = true := by
  obtain ⟨k1, k2, k3, k4⟩ := sppB_mk h
  obtain ⟨s1, s2, s3, s4, s5⟩ := spB_mk k1
  have r1 := rnd_mono hB h1
  have r2 := rnd_mono hB h2
  have e : rnd m (2 ^ (28 - q).toNat) = n := by omega
  unfold sppB
  rw [← spB_in (a := m) (b := m) (by omega) (by omega) (by omega) (by omega) (by omega), k2, e]
  simp
theorem sppb_impl {a b p q n : Int} {o : Bool} (h : sppB a b p q n = o) (w : World) : Calls Try.prog 19 #[.agg #[.int .i64 a, .int .i64 b], .agg #[.int .i64 p, .int .i64 q], .int .i64 n] w fun e w' => e = .returned (.bool o) ∧ Below w.heap.size w w' := h ▸ spp_impl a b p q n w
theorem sppb_spec {a b p q n : Int} {o : Bool} (h : sppB a b p q n = o) (w : World) : Calls Try.prog 16 #[.agg #[.int .i64 a, .int .i64 b], .agg #[.int .i64 p, .int .i64 q], .int .i64 n] w fun e w' => e = .returned (.bool o) ∧ Below w.heap.size w w' := h ▸ spp_spec a b p q n w
structure InSF (w : World) (s f : Nat) (ts tf : TypeId) (a b p q : Int) (w' : World) : Prop where
  bel : Below w.heap.size w w'
  s : Blk w' s ts #[.int .i64 a, .int .i64 b]
  f : Blk w' f tf #[.int .i64 p, .int .i64 q]
theorem InSF.below {w w1 w2 : World} {s f : Nat} {ts tf : TypeId} {a b p q : Int} (h : InSF w s f ts tf a b p q w1) (hb : Below w1.heap.size w1 w2) : InSF w s f ts tf a b p q w2 :=
  ⟨bl_behind hb h.bel, h.s.below hb h.s.lt, h.f.below hb h.f.lt⟩
set_option maxHeartbeats 4000000 in
theorem fnSpanProves.walk (w : World) (a : Option Addr) (len cap : Nat) (zs : List Int) (hrow : IsRow .u8 w a len cap zs) :
    Calls Try.prog 6 #[.slice a len cap] w fun e w' => e = .returned (.bool true) ∧ Below w.heap.size w w' := by
  obtain ⟨hl1, hl2, -⟩ := code_of_row hrow
  have hm : (len : Int) ≤ 9223372036854775807 := by unfold maxLen at hl2; omega
  by_cases hbig : (1048576 : Int) < (len : Int)
  · clear hrow hl1 hl2
    go_enter Try.func6, Try.ntmps6
    go_wp2
    go_ret
    exact ⟨rfl, Below.refl _ _⟩
  · go_enter Try.func6, Try.ntmps6
    go_wp2_with fail
    refine (drawspanproves_any hrow).mono ?_
    rintro e w1 ⟨a, b, p, q, n, ⟨ha0, ha1⟩, ⟨hb0, hb1⟩, ⟨p0, p1⟩, ⟨q0, q1⟩, ⟨n0, n1⟩, rfl, hb⟩
    have HB := Lib.hid hb
    clear hb hrow hl1 hl2
    cases hok : sppB a b p q n
    all_goals
      go_wp2_with fail
      refine (sppb_impl hok _).mono ?_
      rintro e w2 ⟨rfl, hb⟩
      have bs := ((Blk.new w1 34 #[.int .i64 a, .int .i64 b]).alloc (.cells #[.int .i64 p, .int .i64 q] 36)).below hb (by simp <;> omega)
      have bf := (Blk.new (w1.alloc (.cells #[.int .i64 a, .int .i64 b] 34)) 36 #[.int .i64 p, .int .i64 q]).below hb (by simp <;> omega)
      rw [World.size_alloc] at bf
      obtain ⟨ks0, ks1, -, -, ls⟩ := blk2 bs
      obtain ⟨kf0, kf1, -, -, lf⟩ := blk2 bf
      have Bs := Lib.hid bs
      have Bf := Lib.hid bf
      clear bs bf
      (repeat (replace hb := unalloc hb))
      have HB := Lib.hid (HB.out.trans (hb.mono HB.out.size))
      clear hb
      go_wp2_with fail
      refine (sppb_spec hok _).mono ?_
      rintro e w3 ⟨rfl, hb⟩
      (repeat (replace hb := undrew hb)); (repeat (replace hb := unalloc hb)); have bs := Bs.out.below hb Bs.out.lt; obtain ⟨ks0, ks1, -, -, ls⟩ := blk2 bs; have Bs := Lib.hid bs; clear bs; have bf := Bf.out.below hb Bf.out.lt; obtain ⟨kf0, kf1, -, -, lf⟩ := blk2 bf; have Bf := Lib.hid bf; clear bf; have HB := Lib.hid (HB.out.trans (hb.mono HB.out.size)); clear hb
    · go_wp2_with (first | (go_at_call 14; refine (alive_any _).mono ?_; rintro e w' ⟨rfl, rfl⟩))
      go_ret; have hb := HB.out; have := hb.size; exact ⟨ret_bool (by first | rfl | (simp; done) | (simp; omega)), (by repeat' (first | (with_reducible exact Below.refl _ _) | (with_reducible assumption) | (with_reducible refine below_drewN ?_ _) | (with_reducible refine Below.drew ?_) | (with_reducible refine bl_alloc ?_ _) | (with_reducible refine bl_set ?_ ?_ _) | go_size | omega))⟩
    · obtain ⟨g1, g2, g3, g4⟩ := sppB_mk hok
      obtain ⟨s1, s2, s3, s4, s5⟩ := spB_mk g1
      obtain ⟨⟨h1, h2, h3, h4⟩, h5, h6⟩ := fitB_mk g2
      obtain ⟨u1, u2⟩ := pw_bd h1 h2 h3 h4
      obtain ⟨v1, v2⟩ := p2_bd (k := 28 - q) (by omega) (by omega)
      obtain ⟨r1, -⟩ := rnd_near v1 g3
      obtain ⟨-, r2⟩ := rnd_near v1 g4
      have HP := Lib.hid (fun m k1 k2 => sppB_part (m := m) v1 hok k1 k2)
      obtain ⟨j1, j2⟩ := mul_mag (x := n) (y := 2 ^ (28 - q).toNat) (m := 268435456) (n := 268435456) (by omega) (by omega) (by omega) v2
      have HN := Lib.hid (sppB_next hok)
      have nb0 : -268435456 ≤ n := by omega
      have nb1 : n ≤ 268435455 := by omega
      clear g1 g2 g3 g4 hok h5 h6 u1 u2 n0 n1
      go_wp2_with fail
      (with_reducible refine Calls.mono (sppb_impl HN.out _) ?_)
      rintro e w4 ⟨rfl, hb⟩
      (repeat (replace hb := undrew hb)); (repeat (replace hb := unalloc hb)); have bs := Bs.out.below hb Bs.out.lt; obtain ⟨ks0, ks1, -, -, ls⟩ := blk2 bs; have Bs := Lib.hid bs; clear bs; have bf := Bf.out.below hb Bf.out.lt; obtain ⟨kf0, kf1, -, -, lf⟩ := blk2 bf; have Bf := Lib.hid bf; clear bf; have HB := Lib.hid (HB.out.trans (hb.mono HB.out.size)); clear hb
      generalize (a + b).tdiv 2 = M at *
      go_wp2_with fail
      refine (sppb_impl (HP.out a (by omega) s5) _).mono ?_
      rintro e w5 ⟨rfl, hb⟩
      (repeat (replace hb := undrew hb)); (repeat (replace hb := unalloc hb)); have bs := Bs.out.below hb Bs.out.lt; obtain ⟨ks0, ks1, -, -, ls⟩ := blk2 bs; have Bs := Lib.hid bs; clear bs; have bf := Bf.out.below hb Bf.out.lt; obtain ⟨kf0, kf1, -, -, lf⟩ := blk2 bf; have Bf := Lib.hid bf; clear bf; have HB := Lib.hid (HB.out.trans (hb.mono HB.out.size)); clear hb
      rcases (by omega : M < a ∨ (a ≤ M ∧ b < M) ∨ (a ≤ M ∧ M ≤ b)) with t1 | ⟨t1, t2⟩ | ⟨t1, t2⟩
      · go_wp2_with fail
        go_ret; have hb := HB.out; have := hb.size; exact ⟨ret_bool (by first | rfl | (simp; done) | (simp; omega)), (by repeat' (first | (with_reducible exact Below.refl _ _) | (with_reducible assumption) | (with_reducible refine below_drewN ?_ _) | (with_reducible refine Below.drew ?_) | (with_reducible refine bl_alloc ?_ _) | (with_reducible refine bl_set ?_ ?_ _) | go_size | omega))⟩
      · go_wp2_with fail
        go_ret; have hb := HB.out; have := hb.size; exact ⟨ret_bool (by first | rfl | (simp; done) | (simp; omega)), (by repeat' (first | (with_reducible exact Below.refl _ _) | (with_reducible assumption) | (with_reducible refine below_drewN ?_ _) | (with_reducible refine Below.drew ?_) | (with_reducible refine bl_alloc ?_ _) | (with_reducible refine bl_set ?_ ?_ _) | go_size | omega))⟩
      · go_wp2_with fail
        refine (sppb_impl (HP.out M t1 t2) _).mono ?_
        rintro e w6 ⟨rfl, hb⟩
        (repeat (replace hb := undrew hb)); (repeat (replace hb := unalloc hb)); have bs := Bs.out.below hb Bs.out.lt; obtain ⟨ks0, ks1, -, -, ls⟩ := blk2 bs; have Bs := Lib.hid bs; clear bs; have bf := Bf.out.below hb Bf.out.lt; obtain ⟨kf0, kf1, -, -, lf⟩ := blk2 bf; have Bf := Lib.hid bf; clear bf; have HB := Lib.hid (HB.out.trans (hb.mono HB.out.size)); clear hb
        go_wp2_with fail
        go_ret; have hb := HB.out; have := hb.size; exact ⟨ret_bool (by first | rfl | (simp; done) | (simp; omega)), (by repeat' (first | (with_reducible exact Below.refl _ _) | (with_reducible assumption) | (with_reducible refine below_drewN ?_ _) | (with_reducible refine Below.drew ?_) | (with_reducible refine bl_alloc ?_ _) | (with_reducible refine bl_set ?_ ?_ _) | go_size | omega))⟩

/-! THE ROW's STEP of FnSpanProves: from the contract of the law's walk to the given statement. -/
namespace fnSpanProves
set_option maxRecDepth 100000 in
theorem lifted (os : Os) (started : os.Started) (H : Type) (enc : TypeId × Value → H) :
    ReturnsInHanded {} Try.checked os 6 .any (Rows.fnSpanProvesSpec.pre6 enc Try.prog Try.f6 Rows.fnSpanProvesRow.domain false) (Rows.fnSpanProvesSpec.post enc Try.prog Try.f6 false true false false) := by
  refine returnsInHanded_of_change (C := Try.checked) own started (by kernel_rfl) Try.func6
    (ChangeSpec.witness6 (enc := enc) (C := Try.checked) false ⟨#[], #[.slice none 0 0], []⟩ 8 (by kernel_rfl) (by kernel_rfl) (by kernel_rfl) (by kernel_rfl)) ?_
  intro W base args ds gs before hval0 hW hcnd _
  have hval : ∀ (j : Nat) t v, Try.f6.params[j]? = some t → args[j]? = some v → Value.okWide Try.prog W .any base t v := hval0
  have hW' := hW
  obtain ⟨p, q, hA0, hV, rfl, hfz, hnd⟩ := hW
  have hA : DataW.TrodAll enc Try.prog W 0 (fun _ => true) true Try.f6.params.toList args.toList ds p := hA0
  rw [Try.params6] at hA hval
  obtain ⟨v0, vs0, d0, ds0, p0, q0, hargs, rfl, rfl, h0, r0⟩ := trodAll_cons hA
  obtain ⟨rfl, rfl, rfl⟩ := trodAll_nil r0
  obtain rfl : args = #[v0] := by cases args; simp_all
  obtain ⟨rfl, rfl⟩ := trodVars_none hV
  have k0 := h0
  have lt0 : ∀ x ∈ p0, x.block < W.heap.size := by obtain ⟨m, hm⟩ := k0; exact DataW.trod_lt m _ _ _ hm
  obtain ⟨a0, len0, cap0, rfl⟩ := okWide_slice Try.underlying23 (hval 0 23 v0 rfl rfl)
  obtain ⟨z0, w0⟩ : ∃ zs, IsRow .u8 W a0 len0 cap0 zs := by
    obtain ⟨fuel, hf⟩ := h0
    rcases open_ints Try.underlying23 Try.underlying5 (by kernel_rfl) hf with ⟨hcs, _⟩ | ⟨x, l, c, zs, hcs, _, hl, hm, hz, _, hcell, hwz⟩
    · simp [Value.cells] at hcs
      obtain ⟨rfl, rfl, rfl⟩ := hcs
      exact ⟨[], .inl ⟨rfl, rfl, rfl, rfl⟩⟩
    · simp [Value.cells] at hcs
      obtain ⟨rfl, rfl, rfl⟩ := hcs
      exact ⟨zs, .inr ⟨_, rfl, hl, hm, by simpa using hz, hcell, hwz, isRow_lt hcell⟩⟩
  clear hA0 hval0
  refine (walk W a0 len0 cap0 z0 w0).mono fun e W' ⟨he, bel⟩ => ?_
  subst he
  exact ⟨_, rfl, _, _, _, [], _, [], hW', trodAll_mk1 (shut_bool Try.underlying4 _), (trodAll_cons_mk (Below.trod laidOut (by kernel_rfl) (of_decide_eq_true (by kernel_rfl)) k0 bel lt0) trodAll_mk0), rfl, bel.frame _, fun h => by cases h⟩
end fnSpanProves

theorem fnSpanProves_holds : Rows.FnSpanProvesSaid :=
  OpenClaim.holds_of_wide 6 Try.f6 rfl rfl rfl rfl rfl rfl rfl ⟨rfl, rfl, rfl, rfl, rfl⟩ rfl rfl rfl rfl rfl (by kernel_rfl) Try.func6 (by kernel_rfl)
    (of_decide_eq_true (by kernel_rfl)) (by unfold Func.isWrapper; first | (rw [if_pos (by decide +kernel)]; kernel_rfl) | (rw [if_neg (by decide +kernel)]; exact ⟨rfl, rfl⟩))
    (fun os started H enc _ => fnSpanProves.lifted os started H enc)
#print axioms fnSpanProves_holds

end Go.Proofs.Ytpecffijmamddaa

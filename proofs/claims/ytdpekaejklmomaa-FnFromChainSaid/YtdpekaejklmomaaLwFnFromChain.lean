/- Fractions tell chains: ChainOf of the fraction are the quotients; with one more, 1, there is none. No condition. -/
import Derived.Test.YtdpekaejklmomaaFci
import Derived.Test.YtdpekaejklmomaaDrawCh
import Derived.Test.YtdpekaejklmomaaAlive
import Derived.Deep.AppendLies
namespace Go.Proofs.Ytdpekaejklmomaa
open Go.ChangeShapes Go.WideShapes Go.ChangeAt Go.RowKit

theorem Row.more_all {w0 wr w1 : World} {base : Nat} {v v' : Value} {xs : List Int} (h : Row wr base v []) (h' : w1.ownsRow base 3 1 v' xs.length (xs.map (Value.int .i64))) (hg : wr.grownBy w1 v.ownBlock) (hb : Below base w0 wr) (hw0 : base ≤ w0.heap.size) : Row w1 base v' xs ∧ Below base w0 w1 := by
  refine ⟨?_, hb.grown hg (by have := hb.size; omega) (fun k hk => (World.ownsRow.lt h k hk).1)⟩
  exact h'
theorem Row.cells_at {w : World} {base n cap g : Nat} {xs : List Int} (h : Row w base (.slice (some ⟨g, 0, none⟩) n cap) xs)   : ∀ j u, (xs.map (Value.int .i64))[j]? = some u → w.cell? ((⟨g, 0, none⟩ : Addr).add j) = some u := by
  intro j u hj
  exact World.ownsRow.cells h (g := g) rfl j u hj
attribute [local go_sem] alloc_drewN' setCell_drewN'
set_option maxHeartbeats 4000000 in
theorem fnFromChain.walk (w : World) (a : Option Addr) (len cap : Nat) (zs : List Int) (hrow : IsRow .u8 w a len cap zs) :
    Calls Try.prog 14 #[.slice a len cap] w fun e w' => e = .returned (.bool true) ∧ Below w.heap.size w w' := by
  obtain ⟨hl1, hl2, -⟩ := code_of_row hrow
  have hm : (len : Int) ≤ 9223372036854775807 := by unfold maxLen at hl2; omega
  by_cases hbig : (1048576 : Int) < (len : Int)
  · clear hrow hl1 hl2
    go_enter Try.func14, Try.ntmps14
    go_wp2
    go_ret
    exact ⟨rfl, Below.refl _ _⟩
  · obtain ⟨i0, hi, hz0, hz1, hz2⟩ := (info_parts (P := Try.prog) (e := 3) (z := .int .i64 0) (size := 1) (bytes := 8) (by kernel_rfl) : ∃ i, Try.prog.info? 3 = some i ∧ i.zero = some (.int .i64 0) ∧ i.size = 1 ∧ i.bytes = 8)
    have HROW := Lib.hid hrow
    have HB := Lib.hid (Below.refl w.heap.size w)
    clear hl1 hl2 hrow
    go_enter Try.func14, Try.ntmps14
    go_wp2_with fail
    refine (drawfromchain_any HROW.out).mono ?_
    rintro e w1 ⟨v, xs, rfl, rv, hxl, hb⟩
    have hw := bl_behind (w := w) hb (by have hb0 := HB.out; repeat (first | (with_reducible exact hb0) | (with_reducible refine below_drewN ?_ _) | (with_reducible refine Below.drew ?_) | (with_reducible refine bl_alloc ?_ _))); have HB := Lib.hid hw; clear hw hb
    have hsz1 := HB.out.size
    obtain ⟨ao, cap1, rfl, hcm1, hcl1, -⟩ := rv.open_
    have Rv := Lib.hid rv
    have FI : Hid (∀ w' base v, Row w' base v xs → Calls Try.prog 35 #[v] w' fun e w'' => e = .returned (.tuple #[.agg #[.int .i64 (fcA xs), .int .i64 (fcB xs)], .bool (fcOk xs)]) ∧ Below w'.heap.size w' w'') := Lib.hid (fun w' base v h => fch_impl h)
    have hFS : Hid (∀ w' base v, Row w' base v xs → Calls Try.prog 42 #[v] w' fun e w'' => e = .returned (.tuple #[.agg #[.int .i64 (fcA xs), .int .i64 (fcB xs)], .bool (fcOk xs)]) ∧ Below w'.heap.size w' w'') := Lib.hid (fun w' base v h => fch_spec h)
    generalize hn : xs.length = n at *
    have HN := Lib.hid hn
    clear hn rv
    by_cases hg : fcGood xs
    · obtain ⟨y1, y2, y3⟩ := fc_yes hg
      obtain ⟨f1, f2⟩ := fcGood_ok hg
      obtain ⟨m1, m2, m3⟩ := fc_no (more_bad hg)
      have FM : Hid (∀ w' base v, Row w' base v (xs ++ [1]) → Calls Try.prog 35 #[v] w' fun e w'' => e = .returned (.tuple #[.agg #[.int .i64 0, .int .i64 0], .bool false]) ∧ Below w'.heap.size w' w'') := Lib.hid (fun w' base v h => by have k := fch_impl h; rw [m1, m2, m3] at k; exact k)
      have FV := Lib.hid (fun w' => fv_impl (fcBk xs).1 (fcBk xs).2 w')
      have CI := Lib.hid (fun w' => chain_impl (fcBk xs).1 (fcBk xs).2 w')
      rw [frChain_in f1, f2] at CI
      rw [f1] at FV
      rw [y1, y2, y3] at FI hFS
      have hn1 := hg.1.1
      rw [HN.out] at hn1
      clear y1 y2 y3 f1 f2 m1 m2 m3 hg
      generalize (fcBk xs).1 = A at *
      generalize (fcBk xs).2 = B at *
      go_wp2_with fail
      refine (FI.out _ _ _ Rv.out).mono ?_
      rintro e w2 ⟨rfl, hb⟩
      have hsz2 := hb.size
      have hw := bl_behind (w := w) hb (by have hb0 := HB.out; repeat (first | (with_reducible exact hb0) | (with_reducible refine below_drewN ?_ _) | (with_reducible refine Below.drew ?_) | (with_reducible refine bl_alloc ?_ _))); have rv := Row.below (base := w.heap.size) (v := (.slice ao n cap1)) (xs := xs) (by repeat (first | (with_reducible exact Rv.out) | (with_reducible refine Row.drewN ?_ _) | (with_reducible refine Row.alloc ?_ _))) hb; have Rv := Lib.hid rv; clear rv; have HB := Lib.hid hw; clear hw hb
      go_wp2_with fail
      refine (hFS.out _ w.heap.size _ (by repeat (first | (with_reducible exact Rv.out) | (with_reducible refine Row.drewN ?_ _) | (with_reducible refine Row.alloc ?_ _)))).mono ?_
      rintro e w3 ⟨rfl, hb⟩
      have hsz3 := hb.size
      have hw := bl_behind (w := w) hb (by have hb0 := HB.out; repeat (first | (with_reducible exact hb0) | (with_reducible refine below_drewN ?_ _) | (with_reducible refine Below.drew ?_) | (with_reducible refine bl_alloc ?_ _))); have bx := Blk.below (g := w2.heap.size) (t := 41) (cs := #[.int .i64 A, .int .i64 B]) (by repeat (first | (with_reducible exact Bx.out) | (with_reducible exact Blk.new _ _ _) | (with_reducible refine Blk.drewN ?_ _) | (with_reducible refine Blk.drew ?_) | (with_reducible refine Blk.alloc ?_ _))) hb (by first | (have := Bx.out.lt; first | omega | (simp; omega)) | (simp; done) | (simp; omega)); have Bx := Lib.hid bx; obtain ⟨kx0, kx1, fx0, fx1, lx⟩ := blk2 bx; clear bx; have rv := Row.below (base := w.heap.size) (v := (.slice ao n cap1)) (xs := xs) (by repeat (first | (with_reducible exact Rv.out) | (with_reducible refine Row.drewN ?_ _) | (with_reducible refine Row.alloc ?_ _))) hb; have Rv := Lib.hid rv; clear rv; have HB := Lib.hid hw; clear hw hb
      obtain ⟨ao', cap', e, -, -, ho⟩ := Rv.out.open_
      rw [HN.out] at ho e
      simp only [Value.slice.injEq, true_and] at e
      obtain ⟨rfl, rfl⟩ := e
      obtain ⟨g, rfl, -, -⟩ := ho (by omega)
      clear ho
      have RE : Hid (Row _ w.heap.size (.slice (some ⟨w3.heap.size + 1, 0, none⟩) 0 0) []) := Lib.hid (Row.emptyAt (w := w3.alloc (.cells #[.int .i64 A, .int .i64 B] 41)) (by simp) (by rw [World.size_alloc]; rw [World.size_alloc] at hsz3; omega))
      have RV3 := Lib.hid ((Rv.out.alloc (.cells #[.int .i64 A, .int .i64 B] 41)).alloc (.cells #[] 3))
      go_wp2_with (at_builtin; refine wpList_append_lies _ rfl _ _ 39 rfl w.heap.size 3 i0 (.int .i64 0) 1 8 Try.underlying39 hi hz0 hz1 hz2 rfl (by decide) _ _ _ (by rfl) RE.out ⟨g, 0, none⟩ n cap1 (xs.map (Value.int .i64)) (by rfl) ?c0 ?c1 ?c2 ?c6 ?c3 ?c4 ?c5 (w3.heap.size + 2) ?c7 ?_)
      case c0 => rw [List.length_map, HN.out]; omega
      case c1 => exact Row.cells_at RV3.out
      case c2 => intro u hu; obtain ⟨z, -, rfl⟩ := List.mem_map.1 hu; rfl
      case c3 => simp only [List.length_nil]; unfold maxLen; omega
      case c4 => simp only [List.length_nil]; omega
      case c5 => rw [World.size_alloc] at hsz3; simp; omega
      case c6 => omega
      case c7 => simp
      intro g1 cp1 w4 hown1 hgrow1 hat1 hlt1
      have hat2 : g1 = w3.heap.size + 1 ∨ g1 = w3.heap.size + 2 := by
        rcases hat1 with h | h
        · injection h with h; exact .inl h.symm
        · exact .inr h
      have BA := Lib.hid (bl_alloc (bl_alloc HB.out (.cells #[.int .i64 A, .int .i64 B] 41)) (.cells #[] 3))
      obtain ⟨r4, b4⟩ := Row.more_all (xs := xs) RE.out (by rw [HN.out]; simpa using hown1) hgrow1 BA.out (Nat.le_refl _)
      have hgb : g < w3.heap.size := (World.ownsRow.lt Rv.out g rfl).2
      have RV4 := Lib.hid (RV3.out.kept hgrow1 (.inr (by show some g ≠ some (w3.heap.size + 1); intro e; injection e with e; omega)))
      have bx4 := ((Bx.out.alloc (.cells #[.int .i64 A, .int .i64 B] 41)).alloc (.cells #[] 3)).grown hgrow1 (by show some w2.heap.size ≠ some (w3.heap.size + 1); intro e; injection e with e; omega)
      have BX4 := Lib.hid bx4
      have R4 := Lib.hid r4
      have B4 := Lib.hid b4
      have HV1 : Hid (g1 ≠ g ∧ g1 ≠ w2.heap.size) := Lib.hid (by omega)
      clear hown1 hgrow1 r4 b4 RE RV3 BA bx4 kx0 kx1 fx0 fx1 lx hat1 hlt1
      go_wp2_with (at_builtin; refine wpList_append_own _ rfl _ _ 39 rfl w.heap.size 3 i0 (.int .i64 0) 1 8 Try.underlying39 hi hz0 hz1 hz2 rfl (by decide) _ _ _ (by rfl) (R4.out.alloc _) ⟨w4.heap.size, 0, none⟩ 1 1 [.int .i64 1] (by rfl) rfl ?d1 ?d2 ?d3 ?d4 ?d5 ?_)
      case d1 =>
        intro j u hj
        match j, hj with
        | 0, hj => simp at hj; subst hj; simp [Addr.add]
      case d2 => intro u hu; simp at hu; subst hu; rfl
      case d3 => have := HN.out; unfold maxLen; omega
      case d4 => have := HN.out; omega
      case d5 => have := B4.out.size; simp; omega
      intro v2' w5 hown2 hgrow2 _
      obtain ⟨r5, b5, -⟩ := Row.more R4.out hown2 hgrow2 B4.out (Nat.le_refl _) (Nat.le_refl _)
      have rv5 := (RV4.out.alloc (.cells #[.int .i64 1] 3)).kept hgrow2 (.inr (by show some g ≠ some g1; intro e; injection e with e; exact HV1.out.1 e.symm))
      have bx5 := (BX4.out.alloc (.cells #[.int .i64 1] 3)).grown hgrow2 (by show some w2.heap.size ≠ some g1; intro e; injection e with e; exact HV1.out.2 e.symm)
      obtain ⟨kx0, kx1, -, -, lx⟩ := blk2 bx5
      have Bx := Lib.hid bx5
      have Rv := Lib.hid rv5
      have HB := Lib.hid b5
      have R5 := Lib.hid r5
      clear hown2 hgrow2 r5 b5 rv5 bx5 R4 B4 RV4 BX4 HV1
      go_wp2_with fail
      refine (FM.out _ _ _ R5.out).mono ?_
      rintro e w6 ⟨rfl, hb⟩
      have hw := bl_behind (w := w) hb (by have hb0 := HB.out; repeat (first | (with_reducible exact hb0) | (with_reducible refine below_drewN ?_ _) | (with_reducible refine Below.drew ?_) | (with_reducible refine bl_alloc ?_ _))); have bx := Blk.below (g := w2.heap.size) (t := 41) (cs := #[.int .i64 A, .int .i64 B]) (by repeat (first | (with_reducible exact Bx.out) | (with_reducible exact Blk.new _ _ _) | (with_reducible refine Blk.drewN ?_ _) | (with_reducible refine Blk.drew ?_) | (with_reducible refine Blk.alloc ?_ _))) hb (by first | (have := Bx.out.lt; first | omega | (simp; omega)) | (simp; done) | (simp; omega)); have Bx := Lib.hid bx; obtain ⟨kx0, kx1, fx0, fx1, lx⟩ := blk2 bx; clear bx; have rv := Row.below (base := w.heap.size) (v := (.slice (some ⟨g, 0, none⟩) n cap1)) (xs := xs) (by repeat (first | (with_reducible exact Rv.out) | (with_reducible refine Row.drewN ?_ _) | (with_reducible refine Row.alloc ?_ _))) hb; have Rv := Lib.hid rv; clear rv; have HB := Lib.hid hw; clear hw hb
      go_wp2_with (first | (go_at_call 34; refine (FV.out _).mono ?_; rintro e w' ⟨rfl, mm, rfl⟩))
      refine (CI.out _).mono ?_
      rintro e w7 ⟨u, rfl, ru, hb⟩
      have hw := bl_behind (w := w) hb (by have hb0 := HB.out; repeat (first | (with_reducible exact hb0) | (with_reducible refine below_drewN ?_ _) | (with_reducible refine Below.drew ?_) | (with_reducible refine bl_alloc ?_ _))); have rv := Row.below (base := w.heap.size) (v := (.slice (some ⟨g, 0, none⟩) n cap1)) (xs := xs) (by repeat (first | (with_reducible exact Rv.out) | (with_reducible refine Row.drewN ?_ _) | (with_reducible refine Row.alloc ?_ _))) hb; have Rv := Lib.hid rv; clear rv; have HB := Lib.hid hw; clear hw hb
      go_wp2_with fail
      refine (same_any ru Rv.out).mono ?_
      rintro e w8 ⟨rfl, qn, rfl⟩
      go_wp2_with fail
      go_ret
      have hb := HB.out
      exact ⟨rfl, (by repeat' (first | (with_reducible exact Below.refl _ _) | (with_reducible assumption) | (with_reducible refine below_drewN ?_ _) | (with_reducible refine Below.drew ?_) | (with_reducible refine bl_alloc ?_ _) | (with_reducible refine bl_set ?_ ?_ _) | go_size | omega))⟩
    · obtain ⟨y1, y2, y3⟩ := fc_no hg
      rw [y1, y2, y3] at FI hFS
      clear hg y1 y2 y3
      go_wp2_with fail
      refine (FI.out _ _ _ Rv.out).mono ?_
      rintro e w2 ⟨rfl, hb⟩
      have hw := bl_behind (w := w) hb (by have hb0 := HB.out; repeat (first | (with_reducible exact hb0) | (with_reducible refine below_drewN ?_ _) | (with_reducible refine Below.drew ?_) | (with_reducible refine bl_alloc ?_ _))); have rv := Row.below (base := w.heap.size) (v := (.slice ao n cap1)) (xs := xs) (by repeat (first | (with_reducible exact Rv.out) | (with_reducible refine Row.drewN ?_ _) | (with_reducible refine Row.alloc ?_ _))) hb; have Rv := Lib.hid rv; clear rv; have HB := Lib.hid hw; clear hw hb
      go_wp2_with fail
      refine (hFS.out _ w.heap.size _ (by repeat (first | (with_reducible exact Rv.out) | (with_reducible refine Row.drewN ?_ _) | (with_reducible refine Row.alloc ?_ _)))).mono ?_
      rintro e w3 ⟨rfl, hb⟩
      have hw := bl_behind (w := w) hb (by have hb0 := HB.out; repeat (first | (with_reducible exact hb0) | (with_reducible refine below_drewN ?_ _) | (with_reducible refine Below.drew ?_) | (with_reducible refine bl_alloc ?_ _))); have bx := Blk.below (g := w2.heap.size) (t := 41) (cs := #[.int .i64 0, .int .i64 0]) (by repeat (first | (with_reducible exact Bx.out) | (with_reducible exact Blk.new _ _ _) | (with_reducible refine Blk.drewN ?_ _) | (with_reducible refine Blk.drew ?_) | (with_reducible refine Blk.alloc ?_ _))) hb (by first | (have := Bx.out.lt; first | omega | (simp; omega)) | (simp; done) | (simp; omega)); have Bx := Lib.hid bx; obtain ⟨kx0, kx1, fx0, fx1, lx⟩ := blk2 bx; clear bx; have HB := Lib.hid hw; clear hw hb
      go_wp2_with (first | (go_at_call 18; refine (alive_any _).mono ?_; rintro e w' ⟨rfl, rfl⟩))
      go_ret
      have hb := HB.out
      exact ⟨rfl, (by repeat' (first | (with_reducible exact Below.refl _ _) | (with_reducible assumption) | (with_reducible refine below_drewN ?_ _) | (with_reducible refine Below.drew ?_) | (with_reducible refine bl_alloc ?_ _) | (with_reducible refine bl_set ?_ ?_ _) | go_size | omega))⟩

/-! THE ROW's STEP of FnFromChain: from the contract of the law's walk to the given statement. -/
namespace fnFromChain
set_option maxRecDepth 100000 in
theorem lifted (os : Os) (started : os.Started) (H : Type) (enc : TypeId × Value → H) :
    ReturnsInHanded {} Try.checked os 14 .any (Rows.fnFromChainSpec.pre6 enc Try.prog Try.f14 Rows.fnFromChainRow.domain false) (Rows.fnFromChainSpec.post enc Try.prog Try.f14 false true false false) := by
  refine returnsInHanded_of_change (C := Try.checked) own started (by kernel_rfl) Try.func14
    (ChangeSpec.witness6 (enc := enc) (C := Try.checked) false ⟨#[], #[.slice none 0 0], []⟩ 8 (by kernel_rfl) (by kernel_rfl) (by kernel_rfl) (by kernel_rfl)) ?_
  intro W base args ds gs before hval0 hW hcnd _
  have hval : ∀ (j : Nat) t v, Try.f14.params[j]? = some t → args[j]? = some v → Value.okWide Try.prog W .any base t v := hval0
  have hW' := hW
  obtain ⟨p, q, hA0, hV, rfl, hfz, hnd⟩ := hW
  have hA : DataW.TrodAll enc Try.prog W 0 (fun _ => true) true Try.f14.params.toList args.toList ds p := hA0
  rw [Try.params14] at hA hval
  obtain ⟨v0, vs0, d0, ds0, p0, q0, hargs, rfl, rfl, h0, r0⟩ := trodAll_cons hA
  obtain ⟨rfl, rfl, rfl⟩ := trodAll_nil r0
  obtain rfl : args = #[v0] := by cases args; simp_all
  obtain ⟨rfl, rfl⟩ := trodVars_none hV
  have k0 := h0
  have lt0 : ∀ x ∈ p0, x.block < W.heap.size := by obtain ⟨m, hm⟩ := k0; exact DataW.trod_lt m _ _ _ hm
  obtain ⟨a0, len0, cap0, rfl⟩ := okWide_slice Try.underlying24 (hval 0 24 v0 rfl rfl)
  obtain ⟨z0, w0⟩ : ∃ zs, IsRow .u8 W a0 len0 cap0 zs := by
    obtain ⟨fuel, hf⟩ := h0
    rcases open_ints Try.underlying24 Try.underlying5 (by kernel_rfl) hf with ⟨hcs, _⟩ | ⟨x, l, c, zs, hcs, _, hl, hm, hz, _, hcell, hwz⟩
    · simp [Value.cells] at hcs
      obtain ⟨rfl, rfl, rfl⟩ := hcs
      exact ⟨[], .inl ⟨rfl, rfl, rfl, rfl⟩⟩
    · simp [Value.cells] at hcs
      obtain ⟨rfl, rfl, rfl⟩ := hcs
      exact ⟨zs, .inr ⟨_, rfl, hl, hm, by simpa using hz, hcell, hwz, isRow_lt hcell⟩⟩
  clear hA0 hval0
  refine (walk W a0 len0 cap0 z0 w0).mono fun e W' ⟨he, bel⟩ => ?_
  subst he
  exact ⟨_, rfl, _, _, _, [], _, [], hW', trodAll_mk1 (shut_bool Try.underlying4 _), (trodAll_cons_mk (Below.trod laidOut (by kernel_rfl) (of_decide_eq_true (by kernel_rfl)) k0 bel lt0) trodAll_mk0), rfl, bel.frame _, fun h => by cases h⟩
end fnFromChain

theorem fnFromChain_holds : Rows.FnFromChainSaid :=
  OpenClaim.holds_of_wide 14 Try.f14 rfl rfl rfl rfl rfl rfl rfl ⟨rfl, rfl, rfl, rfl, rfl⟩ rfl rfl rfl rfl rfl (by kernel_rfl) Try.func14 (by kernel_rfl)
    (of_decide_eq_true (by kernel_rfl)) (by unfold Func.isWrapper; first | (rw [if_pos (by decide +kernel)]; kernel_rfl) | (rw [if_neg (by decide +kernel)]; exact ⟨rfl, rfl⟩))
    (fun os started H enc _ => fnFromChain.lifted os started H enc)
#print axioms fnFromChain_holds

end Go.Proofs.Ytdpekaejklmomaa

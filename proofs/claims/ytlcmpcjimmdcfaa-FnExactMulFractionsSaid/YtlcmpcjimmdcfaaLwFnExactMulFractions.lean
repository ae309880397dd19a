/- The program's MulFractions returns what the reference's returns, for all arguments. No condition. -/
import Derived.Test.YtlcmpcjimmdcfaaFrac
namespace Go.Proofs.Ytlcmpcjimmdcfaa
open Go.ChangeShapes Go.WideShapes Go.ChangeAt Go.RowKit

theorem tofr_any (a b : Int) (w : World) : Calls Try.prog 20 #[.agg #[.int .i64 a, .int .i64 b]] w fun e w' => e = .returned (.agg #[.int .i64 a, .int .i64 b]) ∧ Below w.heap.size w w' := by
  go_enter Try.func20, Try.ntmps20
  go_wp2
  go_returns
  exact ⟨rfl, by go_grown⟩
/-- What holds behind 'x, ok := Add(..)'. -/
def FrCut (w : World) (a b c d : Int) (r : (Int × Int) × Bool) (K : World → Prop) (s5 s6 : Value) (wx : World) : Prop :=
  ∃ (p q : Int) (o : Bool) (B : Nat), s5 = .pointer (some ⟨B, 0, none⟩) ∧ s6 = .bool o ∧ r = ((p, q), o) ∧ Blk wx B 32 #[.int .i64 p, .int .i64 q] ∧
    Blk wx w.heap.size 30 #[.int .i64 a, .int .i64 b] ∧ Blk wx (w.heap.size + 1) 30 #[.int .i64 c, .int .i64 d] ∧ Below w.heap.size w wx ∧ K wx
theorem frCut_alloc {w w1 : World} {a b c d p q : Int} {o : Bool} {r : (Int × Int) × Bool} {K : World → Prop} (hs : r = ((p, q), o)) (b0 : Blk w1 w.heap.size 30 #[.int .i64 a, .int .i64 b]) (b1 : Blk w1 (w.heap.size + 1) 30 #[.int .i64 c, .int .i64 d]) (bw : Below w.heap.size w w1)
    (hK : ∀ w', Below w1.heap.size w1 w' → K w') : FrCut w a b c d r K (.pointer (some ⟨w1.heap.size, 0, none⟩)) (.bool o) (w1.alloc (.cells #[.int .i64 p, .int .i64 q] 32)) :=
  ⟨p, q, o, _, rfl, rfl, hs, Blk.new _ _ _, b0.alloc _, b1.alloc _, bw.alloc bw.size _, hK _ ((Below.refl _ _).alloc (Nat.le_refl _) _)⟩
theorem Blk.ne_ {w : World} {g g' : Nat} {t t' : TypeId} {cs cs' : Array Value} (h : Blk w g t cs) (h' : Blk w g' t' cs') (hne : t ≠ t') : g ≠ g' := by
  rintro rfl
  unfold Blk at h h'
  rw [h] at h'
  injection h' with h'
  injection h' with _ ht
  exact hne ht
theorem frCut_set {w w1 : World} {a b c d p q : Int} {o : Bool} {B : Nat} {y0 y1 : Value} {r : (Int × Int) × Bool} {K : World → Prop} (hs : r = ((p, q), o)) (bn : Blk w1 B 32 #[y0, y1]) (hB : w.heap.size ≤ B) (b0 : Blk w1 w.heap.size 30 #[.int .i64 a, .int .i64 b]) (b1 : Blk w1 (w.heap.size + 1) 30 #[.int .i64 c, .int .i64 d]) (bw : Below w.heap.size w w1)
    (hne : 30 ≠ 32) (hK : ∀ w', (∀ k, k ≠ B → w'.heap[k]? = w1.heap[k]?) → K w') : FrCut w a b c d r K (.pointer (some ⟨B, 0, none⟩)) (.bool o) ((w1.setCell ⟨B, 0, none⟩ (.int .i64 p)).setCell ⟨B, 1, none⟩ (.int .i64 q)) := by
  have e0 := Blk.ne_ b0 bn hne
  have e1 := Blk.ne_ b1 bn hne
  refine ⟨p, q, o, B, rfl, rfl, hs, (bn.set 0 _).set 1 _, (b0.far e0 _).far e0 _, (b1.far e1 _).far e1 _, (bw.setCell hB _).setCell hB _, hK _ fun k hk => ?_⟩
  rw [Below.heap_setCell _ _ _ _ hk, Below.heap_setCell _ _ _ _ hk]
attribute [local go_sem ↓] Go.wp_at_zero Go.wp_at_succ
set_option maxHeartbeats 40000000 in
theorem fnExactMulFractions.walk (a b : Int) (_ : (Lit.int .i64 a).wf = true) (_ : (Lit.int .i64 b).wf = true) (c d : Int) (_ : (Lit.int .i64 c).wf = true) (_ : (Lit.int .i64 d).wf = true) (w : World) :
    Calls Try.prog 11 #[.agg #[.int .i64 a, .int .i64 b], .agg #[.int .i64 c, .int .i64 d]] w fun e w' => e = .returned (.bool true) ∧ Below w.heap.size w w' := by
  go_enter Try.func11, Try.ntmps11
  go_wp2_with fail
  have b0 : Blk ((w.alloc (.cells #[.int .i64 a, .int .i64 b] 30)).alloc (.cells #[.int .i64 c, .int .i64 d] 30)) w.heap.size 30 #[.int .i64 a, .int .i64 b] := (Blk.new w _ _).alloc _
  have b1 : Blk ((w.alloc (.cells #[.int .i64 a, .int .i64 b] 30)).alloc (.cells #[.int .i64 c, .int .i64 d] 30)) (w.heap.size + 1) 30 #[.int .i64 c, .int .i64 d] := Blk.newAt (by simp)
  have bw : Below w.heap.size w ((w.alloc (.cells #[.int .i64 a, .int .i64 b] 30)).alloc (.cells #[.int .i64 c, .int .i64 d] 30)) := by go_grown
  generalize (w.alloc (.cells #[.int .i64 a, .int .i64 b] 30)).alloc (.cells #[.int .i64 c, .int .i64 d] 30) = W0 at *
  obtain ⟨c00, c01, -, -, l0⟩ := blk2 b0
  obtain ⟨c10, c11, -, -, l1⟩ := blk2 b1
  have B0 := Lib.hid b0
  have B1 := Lib.hid b1
  have BW := Lib.hid bw
  clear b0 b1 bw
  go_cut [5, 6] (fun s5 s6 wx => FrCut w a b c d (frMul a b c d) (fun _ => True) s5 s6 wx)
  case first =>
    go_region_held3 (fun W' => W'.cell? ⟨w.heap.size, 0, none⟩ = some (.int .i64 a) ∧ W'.cell? ⟨w.heap.size, 1, none⟩ = some (.int .i64 b) ∧ W'.cell? ⟨w.heap.size + 1, 0, none⟩ = some (.int .i64 c) ∧ W'.cell? ⟨w.heap.size + 1, 1, none⟩ = some (.int .i64 d)) (first | exact ⟨c00, c01, c10, c11⟩ | go_keep)
      (first | (go_at_call 20; refine (tofr_any _ _ _).mono ?_; rintro e w' ⟨rfl, hb⟩; (repeat (replace hb := undrew hb)); (try (have bn := BN.out.below hb BN.out.lt; have BN := Lib.hid bn; obtain ⟨d0, d1, e0, e1, ln⟩ := blk2 bn; clear bn)); (try (have bn := (Blk.new _ _ _).below hb (by simp); (try have hXB := BB.out.lt); have BN := Lib.hid bn; obtain ⟨d0, d1, e0, e1, ln⟩ := blk2 bn; clear bn)); (repeat (replace hb := unalloc hb)); (try (have bb := BB.out.below hb BB.out.lt; have BB := Lib.hid bb; clear bb)); have hn0 := B0.out.lt; have hn1 := B1.out.lt; have on0 := Nat.ne_of_lt hn0; have on0' := Nat.ne_of_gt hn0; have on1 := Nat.ne_of_lt hn1; have on1' := Nat.ne_of_gt hn1; have b0 := B0.out.below hb B0.out.lt; have b1 := B1.out.below hb B1.out.lt; have bw := BW.out.trans (hb.mono BW.out.size); obtain ⟨c00, c01, -, -, l0⟩ := blk2 b0; obtain ⟨c10, c11, -, -, l1⟩ := blk2 b1; have n0 := Nat.ne_of_lt l0; have n0' := Nat.ne_of_gt l0; have n1 := Nat.ne_of_lt l1; have n1' := Nat.ne_of_gt l1; have B0 := Lib.hid b0; have B1 := Lib.hid b1; have BW := Lib.hid bw; clear b0 b1 bw hb) | (go_at_call 30; refine (frmul_spec _ _ _ _ _).mono ?_; rintro e w1 ⟨p, q, o, rfl, hs1, hb⟩; have HS1 := Lib.hid hs1; clear hs1; (repeat (replace hb := undrew hb)); (try (have bn := BN.out.below hb BN.out.lt; have BN := Lib.hid bn; obtain ⟨d0, d1, e0, e1, ln⟩ := blk2 bn; clear bn)); (try (have bn := (Blk.new _ _ _).below hb (by simp); (try have hXB := BB.out.lt); have BN := Lib.hid bn; obtain ⟨d0, d1, e0, e1, ln⟩ := blk2 bn; clear bn)); (repeat (replace hb := unalloc hb)); (try (have bb := BB.out.below hb BB.out.lt; have BB := Lib.hid bb; clear bb)); have hn0 := B0.out.lt; have hn1 := B1.out.lt; have on0 := Nat.ne_of_lt hn0; have on0' := Nat.ne_of_gt hn0; have on1 := Nat.ne_of_lt hn1; have on1' := Nat.ne_of_gt hn1; have b0 := B0.out.below hb B0.out.lt; have b1 := B1.out.below hb B1.out.lt; have bw := BW.out.trans (hb.mono BW.out.size); obtain ⟨c00, c01, -, -, l0⟩ := blk2 b0; obtain ⟨c10, c11, -, -, l1⟩ := blk2 b1; have n0 := Nat.ne_of_lt l0; have n0' := Nat.ne_of_gt l0; have n1 := Nat.ne_of_lt l1; have n1' := Nat.ne_of_gt l1; have B0 := Lib.hid b0; have B1 := Lib.hid b1; have BW := Lib.hid bw; clear b0 b1 bw hb))
    all_goals go_wp2_with fail
    all_goals go_meet
    all_goals first | exact frCut_alloc HS1.out B0.out B1.out BW.out (fun _ _ => trivial) | exact frCut_set HS1.out BN.out (by omega) B0.out B1.out BW.out (by decide) (fun _ _ => trivial)
  case rest =>
    obtain ⟨p1, q1, o1, X, rfl, rfl, hst1, bx, b0, b1, bw, -⟩ := hcut
    have HS0 := Lib.hid hst1
    obtain ⟨c00, c01, -, -, l0⟩ := blk2 b0
    obtain ⟨c10, c11, -, -, l1⟩ := blk2 b1
    have B0 := Lib.hid b0
    have B1 := Lib.hid b1
    have BW := Lib.hid bw
    have BB := Lib.hid bx
    clear b0 b1 bw bx hst1
    go_wp2_with fail
    go_cut [7, 8] (fun s7 s8 wx => FrCut w a b c d (frMul a b c d) (fun w' => Blk w' X 32 #[.int .i64 p1, .int .i64 q1]) s7 s8 wx)
    case first =>
      go_region_held3 (fun W' => W'.cell? ⟨w.heap.size, 0, none⟩ = some (.int .i64 a) ∧ W'.cell? ⟨w.heap.size, 1, none⟩ = some (.int .i64 b) ∧ W'.cell? ⟨w.heap.size + 1, 0, none⟩ = some (.int .i64 c) ∧ W'.cell? ⟨w.heap.size + 1, 1, none⟩ = some (.int .i64 d)) (first | exact ⟨c00, c01, c10, c11⟩ | go_keep)
      (first | (go_at_call 20; refine (tofr_any _ _ _).mono ?_; rintro e w' ⟨rfl, hb⟩; (repeat (replace hb := undrew hb)); (try (have bn := BN.out.below hb BN.out.lt; have BN := Lib.hid bn; obtain ⟨d0, d1, e0, e1, ln⟩ := blk2 bn; clear bn)); (try (have bn := (Blk.new _ _ _).below hb (by simp); (try have hXB := BB.out.lt); have BN := Lib.hid bn; obtain ⟨d0, d1, e0, e1, ln⟩ := blk2 bn; clear bn)); (repeat (replace hb := unalloc hb)); (try (have bb := BB.out.below hb BB.out.lt; have BB := Lib.hid bb; clear bb)); have hn0 := B0.out.lt; have hn1 := B1.out.lt; have on0 := Nat.ne_of_lt hn0; have on0' := Nat.ne_of_gt hn0; have on1 := Nat.ne_of_lt hn1; have on1' := Nat.ne_of_gt hn1; have b0 := B0.out.below hb B0.out.lt; have b1 := B1.out.below hb B1.out.lt; have bw := BW.out.trans (hb.mono BW.out.size); obtain ⟨c00, c01, -, -, l0⟩ := blk2 b0; obtain ⟨c10, c11, -, -, l1⟩ := blk2 b1; have n0 := Nat.ne_of_lt l0; have n0' := Nat.ne_of_gt l0; have n1 := Nat.ne_of_lt l1; have n1' := Nat.ne_of_gt l1; have B0 := Lib.hid b0; have B1 := Lib.hid b1; have BW := Lib.hid bw; clear b0 b1 bw hb) | (go_at_call 31; refine (frmul_impl _ _ _ _ _).mono ?_; rintro e w1 ⟨p, q, o, rfl, hs1, hb⟩; have HS1 := Lib.hid hs1; clear hs1; (repeat (replace hb := undrew hb)); (try (have bn := BN.out.below hb BN.out.lt; have BN := Lib.hid bn; obtain ⟨d0, d1, e0, e1, ln⟩ := blk2 bn; clear bn)); (try (have bn := (Blk.new _ _ _).below hb (by simp); (try have hXB := BB.out.lt); have BN := Lib.hid bn; obtain ⟨d0, d1, e0, e1, ln⟩ := blk2 bn; clear bn)); (repeat (replace hb := unalloc hb)); (try (have bb := BB.out.below hb BB.out.lt; have BB := Lib.hid bb; clear bb)); have hn0 := B0.out.lt; have hn1 := B1.out.lt; have on0 := Nat.ne_of_lt hn0; have on0' := Nat.ne_of_gt hn0; have on1 := Nat.ne_of_lt hn1; have on1' := Nat.ne_of_gt hn1; have b0 := B0.out.below hb B0.out.lt; have b1 := B1.out.below hb B1.out.lt; have bw := BW.out.trans (hb.mono BW.out.size); obtain ⟨c00, c01, -, -, l0⟩ := blk2 b0; obtain ⟨c10, c11, -, -, l1⟩ := blk2 b1; have n0 := Nat.ne_of_lt l0; have n0' := Nat.ne_of_gt l0; have n1 := Nat.ne_of_lt l1; have n1' := Nat.ne_of_gt l1; have B0 := Lib.hid b0; have B1 := Lib.hid b1; have BW := Lib.hid bw; clear b0 b1 bw hb))
      all_goals go_wp2_with fail
      all_goals go_meet
      all_goals first | exact frCut_alloc HS1.out B0.out B1.out BW.out (fun _ hb => BB.out.below hb BB.out.lt) | exact frCut_set HS1.out BN.out (by omega) B0.out B1.out BW.out (by decide) (fun _ hk => (hk X (Nat.ne_of_lt (by omega))).trans BB.out)
    case rest =>
      obtain ⟨p2, q2, o2, Y, rfl, rfl, hst2, by2, b0, b1, bw, bx2⟩ := hcut
      have e12 := HS0.out.symm.trans hst2
      simp only [Prod.mk.injEq] at e12
      obtain ⟨⟨rfl, rfl⟩, rfl⟩ := e12
      obtain ⟨c00, c01, -, -, l0⟩ := blk2 bx2
      obtain ⟨c10, c11, -, -, l1⟩ := blk2 by2
      have BW := Lib.hid bw
      clear hst2 by2 b0 b1 bx2 bw BB B0 B1 HS0
      cases o1
      all_goals
        go_wp2_with (first | go_in)
        go_ret
        have bw := BW.out
        have := bw.size
        exact ⟨rfl, by go_grown⟩

/-! THE ROW's STEP of FnExactMulFractions: from the contract of the law's walk to the given statement. -/
namespace fnExactMulFractions
set_option maxRecDepth 100000 in
theorem lifted (os : Os) (started : os.Started) (H : Type) (enc : TypeId × Value → H) :
    ReturnsInHanded {} Try.checked os 11 .any (Rows.fnExactMulFractionsSpec.pre6 enc Try.prog Try.f11 Rows.fnExactMulFractionsRow.domain false) (Rows.fnExactMulFractionsSpec.post enc Try.prog Try.f11 false true false false) := by
  refine returnsInHanded_of_change (C := Try.checked) own started (by kernel_rfl) Try.func11
    (ChangeSpec.witness6 (enc := enc) (C := Try.checked) false ⟨#[], #[.agg #[.int .i64 0, .int .i64 0], .agg #[.int .i64 0, .int .i64 0]], []⟩ 8 (by kernel_rfl) (by kernel_rfl) (by kernel_rfl) (by kernel_rfl)) ?_
  intro W base args ds gs before hval0 hW hcnd _
  have hval : ∀ (j : Nat) t v, Try.f11.params[j]? = some t → args[j]? = some v → Value.okWide Try.prog W .any base t v := hval0
  have hW' := hW
  obtain ⟨p, q, hA0, hV, rfl, hfz, hnd⟩ := hW
  have hA : DataW.TrodAll enc Try.prog W 0 (fun _ => true) true Try.f11.params.toList args.toList ds p := hA0
  rw [Try.params11] at hA hval
  obtain ⟨v0, vs0, d0, ds0, p0, q0, hargs, rfl, rfl, h0, r0⟩ := trodAll_cons hA
  obtain ⟨v1, vs1, d1, ds1, p1, q1, rfl, rfl, rfl, h1, r1⟩ := trodAll_cons r0
  obtain ⟨rfl, rfl, rfl⟩ := trodAll_nil r1
  obtain rfl : args = #[v0, v1] := by cases args; simp_all
  obtain ⟨rfl, rfl⟩ := trodVars_none hV
  have k0 := h0
  have lt0 : ∀ x ∈ p0, x.block < W.heap.size := by obtain ⟨m, hm⟩ := k0; exact DataW.trod_lt m _ _ _ hm
  obtain ⟨c0_0, c0_1, y0_0, y0_1, m0, rfl, -, -, hy0_0, hy0_1⟩ := Go.Joins.open_agg2 Try.underlying30 (by kernel_rfl) (by kernel_rfl) (hval 0 30 v0 rfl rfl) h0
  obtain ⟨a0_0, e0_0, -, w0_0⟩ := DataW.trod_int Try.underlying3 hy0_0
  simp only [List.cons.injEq, and_true] at e0_0
  subst e0_0
  obtain ⟨a0_1, e0_1, -, w0_1⟩ := DataW.trod_int Try.underlying3 hy0_1
  simp only [List.cons.injEq, and_true] at e0_1
  subst e0_1
  have k1 := h1
  have lt1 : ∀ x ∈ p1, x.block < W.heap.size := by obtain ⟨m, hm⟩ := k1; exact DataW.trod_lt m _ _ _ hm
  obtain ⟨c1_0, c1_1, y1_0, y1_1, m1, rfl, -, -, hy1_0, hy1_1⟩ := Go.Joins.open_agg2 Try.underlying30 (by kernel_rfl) (by kernel_rfl) (hval 1 30 v1 rfl rfl) h1
  obtain ⟨a1_0, e1_0, -, w1_0⟩ := DataW.trod_int Try.underlying3 hy1_0
  simp only [List.cons.injEq, and_true] at e1_0
  subst e1_0
  obtain ⟨a1_1, e1_1, -, w1_1⟩ := DataW.trod_int Try.underlying3 hy1_1
  simp only [List.cons.injEq, and_true] at e1_1
  subst e1_1
  clear hA0 hval0
  refine (walk a0_0 a0_1 w0_0 w0_1 a1_0 a1_1 w1_0 w1_1 W).mono fun e W' ⟨he, bel⟩ => ?_
  subst he
  exact ⟨_, rfl, _, _, _, [], _, [], hW', trodAll_mk1 (shut_bool Try.underlying4 _), (trodAll_cons_mk (Below.trod laidOut (by kernel_rfl) (of_decide_eq_true (by kernel_rfl)) k0 bel lt0) (trodAll_cons_mk (Below.trod laidOut (by kernel_rfl) (of_decide_eq_true (by kernel_rfl)) k1 bel lt1) trodAll_mk0)), rfl, bel.frame _, fun h => by cases h⟩
end fnExactMulFractions

theorem fnExactMulFractions_holds : Rows.FnExactMulFractionsSaid :=
  OpenClaim.holds_of_wide 11 Try.f11 rfl rfl rfl rfl rfl rfl rfl ⟨rfl, rfl, rfl, rfl, rfl⟩ rfl rfl rfl rfl rfl (by kernel_rfl) Try.func11 (by kernel_rfl)
    (of_decide_eq_true (by kernel_rfl)) (by unfold Func.isWrapper; first | (rw [if_pos (by decide +kernel)]; kernel_rfl) | (rw [if_neg (by decide +kernel)]; exact ⟨rfl, rfl⟩))
    (fun os started H enc _ => fnExactMulFractions.lifted os started H enc)
#print axioms fnExactMulFractions_holds

end Go.Proofs.Ytlcmpcjimmdcfaa

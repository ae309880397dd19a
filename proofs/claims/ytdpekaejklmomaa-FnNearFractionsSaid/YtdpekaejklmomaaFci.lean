/- FromChain of the program. No condition: contracts for the walks of the laws. -/
import Derived.Test.YtdpekaejklmomaaFch
import Derived.Test.YtdpekaejklmomaaShelf
namespace Go.Proofs.Ytdpekaejklmomaa
open Go.ChangeShapes Go.WideShapes Go.ChangeAt Go.RowKit

attribute [local go_sem] alloc_drewN' setCell_drewN'

theorem mul_abs {x y N M : Int} (h1 : -N ≤ x) (h2 : x ≤ N) (h3 : -M ≤ y) (h4 : y ≤ M) (hN : 0 ≤ N) (hM : 0 ≤ M) : -(N * M) ≤ x * y ∧ x * y ≤ N * M := by
  have k : x.natAbs * y.natAbs ≤ N.natAbs * M.natAbs := Nat.mul_le_mul (by omega) (by omega)
  rw [← Int.natAbs_mul, ← Int.natAbs_mul] at k
  have := Int.mul_nonneg hN hM
  omega
set_option maxHeartbeats 1000000 in
theorem next_impl (a b c d q : Int) (w : World) (hq : -1000000 ≤ q ∧ q ≤ 1000000) (ha : -2000000000000 ≤ a ∧ a ≤ 2000000000000) (hb : 0 ≤ b ∧ b ≤ 1000000) (hc : -2000000000000 ≤ c ∧ c ≤ 2000000000000) (hd : 0 ≤ d ∧ d ≤ 1000000) :
    Calls Try.prog 59 #[.agg #[.int .i64 a, .int .i64 b], .agg #[.int .i64 c, .int .i64 d], .int .i64 q] w fun e w' => e = .returned (.agg #[.int .i64 (q * c + a), .int .i64 (q * d + b)]) ∧ Below w.heap.size w w' := by
  have p1 := mul_abs hq.1 hq.2 hc.1 hc.2 (by omega) (by omega)
  have p2 := mul_abs (M := 1000000) hq.1 hq.2 (by omega : -1000000 ≤ d) hd.2 (by omega) (by omega)
  go_enter Try.func59, Try.ntmps59
  go_wp2_with fail
  refine bodyPost_ret (v := .agg #[.int .i64 (q * c + a), .int .i64 (q * d + b)]) (by simp [results, Try.results59, go_sem]) rfl ?_
  exact ⟨rfl, (by repeat' (first | (with_reducible exact Below.refl _ _) | (with_reducible assumption) | (with_reducible refine below_drewN ?_ _) | (with_reducible refine Below.drew ?_) | (with_reducible refine bl_alloc ?_ _) | (with_reducible refine bl_set ?_ ?_ _) | go_size | omega))⟩

/-- What the rounds hold: the two last convergents of the first k quotients. -/
def CvIs (xs : List Int) (k : Nat) (a b c d : Int) : Prop := cvL (xs.take k) = ⟨a, b, c, d⟩ ∧ (-2000000000000 ≤ a ∧ a ≤ 2000000000000) ∧ (0 ≤ b ∧ b ≤ 1000000) ∧ (-2000000000000 ≤ c ∧ c ≤ 2000000000000) ∧ (0 ≤ d ∧ d ≤ 1000000)
theorem cvIs_start (xs : List Int) : CvIs xs 0 0 1 1 0 := ⟨rfl, by omega, by omega, by omega, by omega⟩
theorem cvIs_eq {xs : List Int} {k : Nat} {a b c d : Int} (h : CvIs xs k a b c d) (hk : k < xs.length) : cvL (xs.take (k + 1)) = ⟨c, d, xs.getD k 0 * c + a, xs.getD k 0 * d + b⟩ := by
  rw [cv_take hk, h.1]; rfl
theorem cvIs_step {xs : List Int} {k : Nat} {a b c d : Int} (h : CvIs xs k a b c d) (hk : k < xs.length) (h1 : -2000000000000 ≤ xs.getD k 0 * c + a) (h2 : xs.getD k 0 * c + a ≤ 2000000000000) (h3 : 1 ≤ xs.getD k 0 * d + b) (h4 : xs.getD k 0 * d + b ≤ 1000000) : CvIs xs (k + 1) c d (xs.getD k 0 * c + a) (xs.getD k 0 * d + b) :=
  ⟨cvIs_eq h hk, h.2.2.2.1, h.2.2.2.2, ⟨h1, h2⟩, by omega⟩
theorem cvIs_bad {xs : List Int} {k : Nat} {a b c d : Int} (h : CvIs xs k a b c d) (hk : k < xs.length) (hn : ¬ ((-1000000 ≤ xs.getD k 0 ∧ xs.getD k 0 ≤ 1000000) ∧ (-2000000000000 ≤ xs.getD k 0 * c + a ∧ xs.getD k 0 * c + a ≤ 2000000000000) ∧ 1 ≤ xs.getD k 0 * d + b ∧ xs.getD k 0 * d + b ≤ 1000000)) : ¬ fcGood xs := fun g => by
  have e := good_f g hk
  rw [cvIs_eq h hk] at e
  exact hn ⟨e.1, ⟨e.2.1, e.2.2.1⟩, e.2.2.2.1, e.2.2.2.2⟩
theorem cvIs_end {xs : List Int} {a b c d : Int} (h : CvIs xs xs.length a b c d) : fcBk xs = (c, d) := by
  have e := cv_back xs
  have h1 := h.1
  rw [List.take_length] at h1
  rw [h1] at e
  exact Prod.ext e.1.symm e.2.symm
/-- The world behind the two stores. -/
def NxCut (w : World) (base : Nat) (ao : Option Addr) (n cap : Nat) (xs : List Int) (c d t l : Int) (wx : World) : Prop :=
  Row wx base (.slice ao n cap) xs ∧ Blk wx (w.heap.size + 1) 41 #[.int .i64 c, .int .i64 d] ∧ Blk wx (w.heap.size + 2) 41 #[.int .i64 t, .int .i64 l] ∧ Blk wx w.heap.size 41 #[.int .i64 0, .int .i64 0] ∧ Below w.heap.size w wx
theorem Row.aside {w : World} {base : Nat} {v : Value} {xs : List Int} (h : Row w base v xs) {p : Addr} (hp : ∀ k, v.ownBlock = some k → k < p.block) (u : Value) : Row (w.setCell p u) base v xs := by
  refine h.kept (grown_far p u) ?_
  cases ho : v.ownBlock with
  | none => exact .inl rfl
  | some k =>
    right
    have := hp k ho
    intro e
    injection e with e
    omega
theorem nxCut_mk {w w' : World} {base : Nat} {ao : Option Addr} {n cap : Nat} {xs : List Int} {a b a' b' c d t l : Int} (h : Row w base (.slice ao n cap) xs) (hrow : Row w' base (.slice ao n cap) xs) (b1 : Blk w' (w.heap.size + 1) 41 #[.int .i64 a, .int .i64 b]) (b2 : Blk w' (w.heap.size + 2) 41 #[.int .i64 a', .int .i64 b']) (b0 : Blk w' w.heap.size 41 #[.int .i64 0, .int .i64 0]) (bl : Below w.heap.size w w') :
    NxCut w base ao n cap xs c d t l ((((w'.setCell ⟨w.heap.size + 1, 0, none⟩ (.int .i64 c)).setCell ⟨w.heap.size + 1, 1, none⟩ (.int .i64 d)).setCell ⟨w.heap.size + 2, 0, none⟩ (.int .i64 t)).setCell ⟨w.heap.size + 2, 1, none⟩ (.int .i64 l)) := by
  have hl := fun k hk => (World.ownsRow.lt h k hk).2
  refine ⟨(((hrow.aside ?_ _).aside ?_ _).aside ?_ _).aside ?_ _, (((b1.set 0 _).set 1 _).far ?_ _).far ?_ _, (((b2.far ?_ _).far ?_ _).set 0 _).set 1 _, (((b0.far ?_ _).far ?_ _).far ?_ _).far ?_ _, (((bl.setCell ?_ _).setCell ?_ _).setCell ?_ _).setCell ?_ _⟩
  all_goals first | (intro k hk; have := hl k hk; dsimp only; omega) | (dsimp only; omega)
set_option maxHeartbeats 8000000 in
theorem fch_impl {w : World} {base : Nat} {v : Value} {xs : List Int} (h : Row w base v xs) : Calls Try.prog 35 #[v] w fun e w' => e = .returned (.tuple #[.agg #[.int .i64 (fcA xs), .int .i64 (fcB xs)], .bool (fcOk xs)]) ∧ Below w.heap.size w w' := by
  have HR := Lib.hid h
  obtain ⟨ao, cap, rfl, hc, hlc, -⟩ := h.open_
  have hm : (xs.length : Int) ≤ 9223372036854775807 := by unfold maxLen at hc; omega
  by_cases hn : 1 ≤ xs.length ∧ xs.length ≤ 40
  · obtain ⟨nb1, nb2⟩ := hn
    have HS := Lib.hid (cvIs_start xs)
    generalize hn : xs.length = n at *
    have HN := Lib.hid hn
    clear hn h
    go_enter Try.func35, Try.ntmps35
    go_wp2_with fail
    go_loopw [21] (fun i wr => ∃ (k : Nat) (a b c d : Int), i = .int .i64 (k : Int) ∧ k ≤ n ∧ Row wr base (.slice ao n cap) xs ∧ Blk wr (w.heap.size + 1) 41 #[.int .i64 a, .int .i64 b] ∧ Blk wr (w.heap.size + 2) 41 #[.int .i64 c, .int .i64 d] ∧ Blk wr w.heap.size 41 #[.int .i64 0, .int .i64 0] ∧ Below w.heap.size w wr ∧ Hid (CvIs xs k a b c d)) (fun i _ => n - (RowKit.intOf i).toNat)
    case atStart => exact ⟨0, 0, 1, 1, 0, rfl, by omega, ((HR.out.alloc _).alloc _).alloc _, Blk.alloc (Blk.newAt (by simp)) _, Blk.newAt (by simp), ((Blk.new w _ _).alloc _).alloc _, (by repeat' (first | (with_reducible exact Below.refl _ _) | (with_reducible assumption) | (with_reducible refine below_drewN ?_ _) | (with_reducible refine Below.drew ?_) | (with_reducible refine bl_alloc ?_ _) | (with_reducible refine bl_set ?_ ?_ _) | go_size | omega)), HS⟩
    case round =>
      obtain ⟨k, a, b, c, d, rfl, hk, hrow, hb1, hb2, hb0, hbl, HK⟩ := hrel
      have HROW := Lib.hid hrow
      have HB0 := Lib.hid hb0
      have HB1 := Lib.hid hb1
      have HB2 := Lib.hid hb2
      have HBL := Lib.hid hbl
      obtain ⟨ao', cap', e, -, -, ho⟩ := hrow.open_
      rw [HN.out] at ho e
      simp only [Value.slice.injEq, true_and] at e
      obtain ⟨rfl, rfl⟩ := e
      obtain ⟨g, rfl, cA, fA⟩ := ho (by omega)
      obtain ⟨q00, q01, f00, f01, l0⟩ := blk2 hb0
      obtain ⟨q10, q11, f10, f11, l1⟩ := blk2 hb1
      obtain ⟨q20, q21, f20, f21, l2⟩ := blk2 hb2
      rcases Nat.lt_or_ge k n with hlt | hge
      · have ca := cA k hlt
        have hj : k < xs.length := by rw [HN.out]; omega
        have hx := HK.out.2
        obtain ⟨ha, hb, hc', hd⟩ := hx
        obtain ⟨z, hz⟩ : ∃ z, xs.getD k 0 = z := ⟨_, rfl⟩
        have HG := Lib.hid (fun hb => ret_no (cvIs_bad HK.out hj hb))
        have HT := Lib.hid (cvIs_step HK.out hj)
        rw [hz] at ca HG HT
        clear hz cA fA ho hrow hb0 hb1 hb2 hbl hj
        have hki : (k : Int) < (n : Int) := by omega
        by_cases hz : -1000000 ≤ z ∧ z ≤ 1000000
        · have p1 := mul_abs hz.1 hz.2 hc'.1 hc'.2 (by omega) (by omega)
          have p2 := mul_abs (M := 1000000) hz.1 hz.2 (by omega : -1000000 ≤ d) hd.2 (by omega) (by omega)
          go_wp2_with (first | (go_at_call 58; refine (within_yes _ _ _ (by omega) (by omega) (by omega) (by omega)).mono ?_; rintro e w' ⟨rfl, rfl⟩) | (go_at_call 58; refine (within_no _ _ _ (by omega) (by omega) (by omega)).mono ?_; rintro e w' ⟨rfl, rfl⟩))
          go_cut [33] (fun s wx => NxCut w base (some ⟨g, 0, none⟩) n cap xs c d (z * c + a) (z * d + b) wx)
          case first =>
            go_region_with
              (first | (go_at_call 59; refine (next_impl _ _ _ _ _ _ (by omega) (by omega) (by omega) (by omega) (by omega)).mono ?_; rintro e w' ⟨rfl, hb⟩; (repeat (replace hb := undrew hb)); (repeat (replace hb := undrewN hb)); have b0 := HB0.out.below hb HB0.out.lt; have b1 := HB1.out.below hb HB1.out.lt; have b2 := HB2.out.below hb HB2.out.lt; have bl := HBL.out.trans (hb.mono HBL.out.size); have rw_ := HROW.out.below hb; obtain ⟨q00, q01, f00, f01, l0⟩ := blk2 b0; obtain ⟨q10, q11, f10, f11, l1⟩ := blk2 b1; obtain ⟨q20, q21, f20, f21, l2⟩ := blk2 b2; have HB0 := Lib.hid b0; have HB1 := Lib.hid b1; have HB2 := Lib.hid b2; have HBL := Lib.hid bl; have HROW := Lib.hid rw_; clear b0 b1 b2 bl rw_ hb))
            all_goals go_wp2_with fail
            all_goals go_meet
            all_goals exact nxCut_mk HR.out HROW.out HB1.out HB2.out HB0.out HBL.out
          case rest =>
            obtain ⟨hrow, hb1, hb2, hb0, hbl⟩ := hcut
            have HROW := Lib.hid hrow
            have HB0 := Lib.hid hb0
            have HB1 := Lib.hid hb1
            have HB2 := Lib.hid hb2
            have HBL := Lib.hid hbl
            obtain ⟨q00, q01, f00, f01, l0⟩ := blk2 hb0
            obtain ⟨q10, q11, f10, f11, l1⟩ := blk2 hb1
            obtain ⟨q20, q21, f20, f21, l2⟩ := blk2 hb2
            clear hrow hb0 hb1 hb2 hbl
            generalize z * c + a = t at *
            generalize z * d + b = l at *
            clear p1 p2
            by_cases h1 : -2000000000000 ≤ t ∧ t ≤ 2000000000000
            · rcases (by omega : l < 1 ∨ (1 ≤ l ∧ 1000000 < l) ∨ (1 ≤ l ∧ l ≤ 1000000)) with h2 | ⟨h2, h3⟩ | ⟨h2, h3⟩
              · have HE := Lib.hid (HG.out (fun c => by omega))
                go_wp2_with (first | (go_at_call 58; refine (within_yes _ _ _ (by omega) (by omega) (by omega) (by omega)).mono ?_; rintro e w' ⟨rfl, rfl⟩) | (go_at_call 58; refine (within_no _ _ _ (by omega) (by omega) (by omega)).mono ?_; rintro e w' ⟨rfl, rfl⟩))
                have bk : Blk _ w.heap.size 41 #[.int .i64 0, .int .i64 0] := (HB0.out.set 0 (.int .i64 0)).set 1 (.int .i64 0)
                obtain ⟨q0, q1, -, -, -⟩ := blk2 bk
                refine bodyPost_ret (v := .tuple #[.agg #[.int .i64 0, .int .i64 0], .bool false]) (by simp [results, Try.results35, go_sem, q0, q1]) rfl ?_
                have hb := HBL.out
                exact ⟨HE.out, (by repeat' (first | (with_reducible exact Below.refl _ _) | (with_reducible assumption) | (with_reducible refine below_drewN ?_ _) | (with_reducible refine Below.drew ?_) | (with_reducible refine bl_alloc ?_ _) | (with_reducible refine bl_set ?_ ?_ _) | go_size | omega))⟩
              · have HE := Lib.hid (HG.out (fun c => by omega))
                go_wp2_with (first | (go_at_call 58; refine (within_yes _ _ _ (by omega) (by omega) (by omega) (by omega)).mono ?_; rintro e w' ⟨rfl, rfl⟩) | (go_at_call 58; refine (within_no _ _ _ (by omega) (by omega) (by omega)).mono ?_; rintro e w' ⟨rfl, rfl⟩))
                have bk : Blk _ w.heap.size 41 #[.int .i64 0, .int .i64 0] := (HB0.out.set 0 (.int .i64 0)).set 1 (.int .i64 0)
                obtain ⟨q0, q1, -, -, -⟩ := blk2 bk
                refine bodyPost_ret (v := .tuple #[.agg #[.int .i64 0, .int .i64 0], .bool false]) (by simp [results, Try.results35, go_sem, q0, q1]) rfl ?_
                have hb := HBL.out
                exact ⟨HE.out, (by repeat' (first | (with_reducible exact Below.refl _ _) | (with_reducible assumption) | (with_reducible refine below_drewN ?_ _) | (with_reducible refine Below.drew ?_) | (with_reducible refine bl_alloc ?_ _) | (with_reducible refine bl_set ?_ ?_ _) | go_size | omega))⟩
              · have HT := Lib.hid (HT.out h1.1 h1.2 h2 h3)
                go_wp2_with (first | (go_at_call 58; refine (within_yes _ _ _ (by omega) (by omega) (by omega) (by omega)).mono ?_; rintro e w' ⟨rfl, rfl⟩) | (go_at_call 58; refine (within_no _ _ _ (by omega) (by omega) (by omega)).mono ?_; rintro e w' ⟨rfl, rfl⟩))
                go_roundw
                case rel => exact ⟨k + 1, c, d, t, l, by go_num, by omega, HROW.out, HB1.out, HB2.out, HB0.out, HBL.out, HT⟩
                case measure => simp [RowKit.intOf]; omega
            · have HE := Lib.hid (HG.out (fun c => h1 c.2.1))
              go_wp2_with (first | (go_at_call 58; refine (within_yes _ _ _ (by omega) (by omega) (by omega) (by omega)).mono ?_; rintro e w' ⟨rfl, rfl⟩) | (go_at_call 58; refine (within_no _ _ _ (by omega) (by omega) (by omega)).mono ?_; rintro e w' ⟨rfl, rfl⟩))
              have bk : Blk _ w.heap.size 41 #[.int .i64 0, .int .i64 0] := (HB0.out.set 0 (.int .i64 0)).set 1 (.int .i64 0)
              obtain ⟨q0, q1, -, -, -⟩ := blk2 bk
              refine bodyPost_ret (v := .tuple #[.agg #[.int .i64 0, .int .i64 0], .bool false]) (by simp [results, Try.results35, go_sem, q0, q1]) rfl ?_
              have hb := HBL.out
              exact ⟨HE.out, (by repeat' (first | (with_reducible exact Below.refl _ _) | (with_reducible assumption) | (with_reducible refine below_drewN ?_ _) | (with_reducible refine Below.drew ?_) | (with_reducible refine bl_alloc ?_ _) | (with_reducible refine bl_set ?_ ?_ _) | go_size | omega))⟩
        · have HE := Lib.hid (HG.out (fun c => hz c.1))
          go_wp2_with (first | (go_at_call 58; refine (within_yes _ _ _ (by omega) (by omega) (by omega) (by omega)).mono ?_; rintro e w' ⟨rfl, rfl⟩) | (go_at_call 58; refine (within_no _ _ _ (by omega) (by omega) (by omega)).mono ?_; rintro e w' ⟨rfl, rfl⟩))
          have bk : Blk _ w.heap.size 41 #[.int .i64 0, .int .i64 0] := (HB0.out.set 0 (.int .i64 0)).set 1 (.int .i64 0)
          obtain ⟨q0, q1, -, -, -⟩ := blk2 bk
          refine bodyPost_ret (v := .tuple #[.agg #[.int .i64 0, .int .i64 0], .bool false]) (by simp [results, Try.results35, go_sem, q0, q1]) rfl ?_
          have hb := HBL.out
          exact ⟨HE.out, (by repeat' (first | (with_reducible exact Below.refl _ _) | (with_reducible assumption) | (with_reducible refine below_drewN ?_ _) | (with_reducible refine Below.drew ?_) | (with_reducible refine bl_alloc ?_ _) | (with_reducible refine bl_set ?_ ?_ _) | go_size | omega))⟩
      · have e : k = n := by omega
        subst e
        have HF := Lib.hid (cvIs_end (show CvIs xs xs.length a b c d by rw [HN.out]; exact HK.out))
        clear cA fA ho hrow hb0 hb1 hb2 hbl
        go_wp2_with fail
        refine (chain_impl _ _ _).mono ?_
        rintro e w1 ⟨u, rfl, ru, hb⟩
        have hbl := bl_behind (w := w) hb HBL.out
        have hb0 := HB0.out.below hb HB0.out.lt
        have hb2 := HB2.out.below hb HB2.out.lt
        have hrow := HROW.out.below hb
        have HG : Hid (fcGood xs ↔ frChain c d = xs) := Lib.hid (by
          have h1 := HN.out
          have h2 := HF.out
          unfold fcGood
          rw [h2]
          exact ⟨fun h => h.2, fun h => ⟨by omega, h⟩⟩)
        generalize frChain c d = ys at *
        obtain ⟨bo, cap2, rfl, hc2, hlc2, hY⟩ := ru.open_
        obtain ⟨ao', cap', e, -, -, hX⟩ := hrow.open_
        rw [HN.out] at hX e
        simp only [Value.slice.injEq, true_and] at e
        obtain ⟨e1, rfl⟩ := e
        obtain ⟨g', e2, cA, -⟩ := hX (by omega)
        have e3 := e1.trans e2
        injection e3 with e3
        injection e3 with e3
        subst e3
        clear e1 e2 hX
        have hm2 : (ys.length : Int) ≤ 9223372036854775807 := by unfold maxLen at hc2; omega
        obtain ⟨q00, q01, f00, f01, l0⟩ := blk2 hb0
        obtain ⟨q20, q21, f20, f21, l2⟩ := blk2 hb2
        have HB0 := Lib.hid hb0
        have HBL := Lib.hid hbl
        clear hb hbl hb0 hb2 hrow ru HROW HB1 HB2
        rcases Nat.eq_zero_or_pos ys.length with hy0 | hy0
        · have HE := Lib.hid (ret_no (fun g => by have := HG.out.1 g; have h1 := HN.out; rw [← this] at h1; omega))
          rw [hy0]
          clear hY cA HG
          go_wp2_with fail
          refine (Try.slices_Equal_int_empty _ _ _ _ _ _ (by omega)).mono ?_
          rintro e w2 ⟨rfl, rfl⟩
          have hk0 : decide (k = 0) = false := by simp; omega
          rw [hk0]
          go_wp2_with fail
          have bk : Blk _ w.heap.size 41 #[.int .i64 0, .int .i64 0] := (HB0.out.set 0 (.int .i64 0)).set 1 (.int .i64 0)
          obtain ⟨q0, q1, -, -, -⟩ := blk2 bk
          refine bodyPost_ret (v := .tuple #[.agg #[.int .i64 0, .int .i64 0], .bool false]) (by simp [results, Try.results35, go_sem, q0, q1]) rfl ?_
          have hb := HBL.out
          exact ⟨HE.out, (by repeat' (first | (with_reducible exact Below.refl _ _) | (with_reducible assumption) | (with_reducible refine below_drewN ?_ _) | (with_reducible refine Below.drew ?_) | (with_reducible refine bl_alloc ?_ _) | (with_reducible refine bl_set ?_ ?_ _) | go_size | omega))⟩
        · obtain ⟨g2, rfl, cB, -⟩ := hY hy0
          have CA := Lib.hid (show ∀ j, j < xs.length → w1.cell? ⟨g, 0 + j, none⟩ = some (.int .i64 (xs.getD j 0)) from fun j hj => by rw [Nat.zero_add]; exact cA j (by have := HN.out; omega))
          have CB := Lib.hid (show ∀ j, j < ys.length → w1.cell? ⟨g2, 0 + j, none⟩ = some (.int .i64 (ys.getD j 0)) from fun j hj => by rw [Nat.zero_add]; exact cB j hj)
          have LX := HN.out
          clear cA cB hY
          obtain ⟨m, hm'⟩ : ∃ m, ys.length = m := ⟨_, rfl⟩
          rw [hm'] at hm2 hlc2 hy0 ⊢
          have hmy : m ≤ ys.length := by omega
          have hkx : k ≤ xs.length := by omega
          have HL := Lib.hid hm'
          have HLX := Lib.hid LX
          clear hm' LX
          go_wp2_with fail
          refine (Try.slices_Equal_int g2 0 m cap2 g 0 k cap ys xs _ hmy hkx (by omega) (by omega) CB.out CA.out).mono ?_
          rintro e w2 ⟨rfl, q, rfl⟩
          rw [show ys.take m = ys by rw [← HL.out, List.take_length], show xs.take k = xs by rw [← HLX.out, List.take_length]]
          by_cases hyx : ys = xs
          · obtain ⟨y1, y2, y3⟩ := fc_yes (HG.out.2 hyx)
            rw [HF.out] at y1 y2
            have HE2 := Lib.hid (ret_fc (xs := xs) (a := c) (b := d) (o := true) y1.symm y2.symm y3.symm)
            rw [show (ys == xs) = true by rw [hyx]; exact beq_self_eq_true xs]
            clear hyx y1 y2 y3 hmy hkx
            go_wp2_with fail
            have bk : Blk _ w.heap.size 41 #[.int .i64 c, .int .i64 d] := (HB0.out.set 0 (.int .i64 c)).set 1 (.int .i64 d)
            obtain ⟨q0, q1, -, -, -⟩ := blk2 bk
            refine bodyPost_ret (v := .tuple #[.agg #[.int .i64 c, .int .i64 d], .bool true]) (by simp [results, Try.results35, go_sem, q0, q1]) rfl ?_
            have hb := HBL.out
            exact ⟨HE2.out, (by repeat' (first | (with_reducible exact Below.refl _ _) | (with_reducible assumption) | (with_reducible refine below_drewN ?_ _) | (with_reducible refine Below.drew ?_) | (with_reducible refine bl_alloc ?_ _) | (with_reducible refine bl_set ?_ ?_ _) | go_size | omega))⟩
          · have HE := Lib.hid (ret_no (fun g => hyx (HG.out.1 g)))
            rw [show (ys == xs) = false by simpa using hyx]
            clear hyx hmy hkx
            go_wp2_with fail
            have bk : Blk _ w.heap.size 41 #[.int .i64 0, .int .i64 0] := (HB0.out.set 0 (.int .i64 0)).set 1 (.int .i64 0)
            obtain ⟨q0, q1, -, -, -⟩ := blk2 bk
            refine bodyPost_ret (v := .tuple #[.agg #[.int .i64 0, .int .i64 0], .bool false]) (by simp [results, Try.results35, go_sem, q0, q1]) rfl ?_
            have hb := HBL.out
            exact ⟨HE.out, (by repeat' (first | (with_reducible exact Below.refl _ _) | (with_reducible assumption) | (with_reducible refine below_drewN ?_ _) | (with_reducible refine Below.drew ?_) | (with_reducible refine bl_alloc ?_ _) | (with_reducible refine bl_set ?_ ?_ _) | go_size | omega))⟩
  · have HE := Lib.hid (ret_no (xs := xs) (fun g => hn g.1))
    clear h HR
    generalize xs.length = n at *
    rcases (by omega : n < 1 ∨ (1 ≤ n ∧ 40 < n)) with hn | ⟨hn, hn'⟩
    all_goals
      go_enter Try.func35, Try.ntmps35
      go_wp2_with fail
      refine bodyPost_ret (v := .tuple #[.agg #[.int .i64 0, .int .i64 0], .bool false]) (by simp [results, Try.results35, go_sem]) rfl ?_
      exact ⟨HE.out, (by repeat' (first | (with_reducible exact Below.refl _ _) | (with_reducible assumption) | (with_reducible refine below_drewN ?_ _) | (with_reducible refine Below.drew ?_) | (with_reducible refine bl_alloc ?_ _) | (with_reducible refine bl_set ?_ ?_ _) | go_size | omega))⟩

end Go.Proofs.Ytdpekaejklmomaa

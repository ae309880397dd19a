/- FromChain of the program and of the reference. No condition: contracts for the walks of the laws. -/
import Derived.Test.YtdpekaejklmomaaFcP
import Derived.Test.YtdpekaejklmomaaChain
import Derived.Test.YtdpekaejklmomaaIntRows
import Derived.Lib.SlicesS
namespace Go.Proofs.Ytdpekaejklmomaa
open Go.ChangeShapes Go.WideShapes Go.ChangeAt Go.RowKit

attribute [local go_sem] alloc_drewN' setCell_drewN'
theorem bad_at {xs : List Int} {k : Nat} (hk : k < xs.length) (h : ¬ (-1000000 ≤ xs.getD k 0 ∧ xs.getD k 0 ≤ 1000000) ∨ ¬ (-1000000 ≤ (fcBk (xs.drop (k + 1))).1 ∧ (fcBk (xs.drop (k + 1))).1 ≤ 1000000) ∨ ¬ (-1000000 ≤ (fcBk (xs.drop (k + 1))).2 ∧ (fcBk (xs.drop (k + 1))).2 ≤ 1000000)) : ¬ fcGood xs := fun g => by
  obtain ⟨h1, h2, h3⟩ := good_b g hk
  rcases h with h | h | h
  · exact h h1
  · exact h h2
  · exact h h3
theorem ret_fc {xs : List Int} {a b : Int} {o : Bool} (ha : a = fcA xs) (hb : b = fcB xs) (ho : o = fcOk xs) : Ending.returned (.tuple #[.agg #[.int .i64 a, .int .i64 b], .bool o]) = Ending.returned (.tuple #[.agg #[.int .i64 (fcA xs), .int .i64 (fcB xs)], .bool (fcOk xs)]) := by rw [ha, hb, ho]
theorem ret_no {xs : List Int} (h : ¬ fcGood xs) : Ending.returned (.tuple #[.agg #[.int .i64 0, .int .i64 0], .bool false]) = Ending.returned (.tuple #[.agg #[.int .i64 (fcA xs), .int .i64 (fcB xs)], .bool (fcOk xs)]) := by
  obtain ⟨h1, h2, h3⟩ := fc_no h
  rw [h1, h2, h3]

/-- What the rounds from the end hold. -/
def BkRel (xs : List Int) (k : Nat) (x y : Int) : Prop := fcBk (xs.drop k) = (x, y) ∧ (-1000001000000 ≤ x ∧ x ≤ 1000001000000) ∧ (-1000001000000 ≤ y ∧ y ≤ 1000001000000)
theorem bk_start (xs : List Int) : BkRel xs xs.length 1 0 := ⟨by rw [List.drop_length]; rfl, by omega, by omega⟩
theorem bk_step {xs : List Int} {k : Nat} {x y : Int} (h : BkRel xs (k + 1) x y) (hk : k < xs.length) (h1 : -1000000 ≤ xs.getD k 0) (h2 : xs.getD k 0 ≤ 1000000) (h3 : -1000000 ≤ x) (h4 : x ≤ 1000000) (h5 : -1000000 ≤ y) (h6 : y ≤ 1000000) : BkRel xs k (xs.getD k 0 * x + y) x := by
  obtain ⟨e, -, -⟩ := h
  have d := drop_back hk
  rw [e] at d
  have p := (prod_bd h1 h2 h3 h4 h5 h6).2
  exact ⟨Prod.ext d.1 d.2, p, by omega⟩
theorem bk_bad {xs : List Int} {k : Nat} {x y : Int} (h : BkRel xs (k + 1) x y) (hk : k < xs.length) (hn : ¬ ((-1000000 ≤ xs.getD k 0 ∧ xs.getD k 0 ≤ 1000000) ∧ (-1000000 ≤ x ∧ x ≤ 1000000) ∧ (-1000000 ≤ y ∧ y ≤ 1000000))) : ¬ fcGood xs := fun g => by
  obtain ⟨h1, h2, h3⟩ := good_b g hk
  rw [h.1] at h2 h3
  exact hn ⟨h1, h2, h3⟩
set_option maxHeartbeats 4000000 in
theorem fch_spec {w : World} {base : Nat} {v : Value} {xs : List Int} (h : Row w base v xs) : Calls Try.prog 42 #[v] w fun e w' => e = .returned (.tuple #[.agg #[.int .i64 (fcA xs), .int .i64 (fcB xs)], .bool (fcOk xs)]) ∧ Below w.heap.size w w' := by
  have HR := Lib.hid h
  obtain ⟨ao, cap, rfl, hc, hlc, -⟩ := h.open_
  have hm : (xs.length : Int) ≤ 9223372036854775807 := by unfold maxLen at hc; omega
  by_cases hn : 1 ≤ xs.length ∧ xs.length ≤ 40
  · obtain ⟨nb1, nb2⟩ := hn
    have HS := Lib.hid (bk_start xs)
    generalize hn : xs.length = n at *
    have HN := Lib.hid hn
    clear hn h
    go_enter Try.func42, Try.ntmps42
    go_wp2_with (first | (go_at_call 46; refine (l1in_yes _ _ _ _ (by omega) (by omega)).mono ?_; rintro e w' ⟨rfl, rfl⟩) | (go_at_call 46; refine (l1in_no _ _ _ _ (by omega)).mono ?_; rintro e w' ⟨rfl, rfl⟩))
    go_loopw [4, 5, 6] (fun t l i wr => ∃ (k : Nat) (x y : Int), t = .int .i64 x ∧ l = .int .i64 y ∧ i = .int .i64 ((k : Int) - 1) ∧ k ≤ n ∧ Row wr base (.slice ao n cap) xs ∧ Blk wr w.heap.size 41 #[.int .i64 0, .int .i64 0] ∧ Below w.heap.size w wr ∧ Hid (BkRel xs k x y)) (fun _ _ i _ => (RowKit.intOf i + 1).toNat)
    case atStart => exact ⟨n, 1, 0, rfl, rfl, rfl, by omega, Row.alloc HR.out _, Blk.new _ _ _, (by repeat' (first | (with_reducible exact Below.refl _ _) | (with_reducible assumption) | (with_reducible refine below_drewN ?_ _) | (with_reducible refine Below.drew ?_) | (with_reducible refine bl_alloc ?_ _) | (with_reducible refine bl_set ?_ ?_ _) | go_size | omega)), HS⟩
    case round =>
      obtain ⟨k, x, y, rfl, rfl, rfl, hk, hrow, hblk, hbl, HK⟩ := hrel
      have HROW := Lib.hid hrow
      have HBLK := Lib.hid hblk
      have HBL := Lib.hid hbl
      rcases (by omega : k = 0 ∨ 0 < k) with rfl | hk0
      · clear hrow hblk hbl
        go_wp2_with fail
        refine (chain_spec _ _ _).mono ?_
        rintro e w1 ⟨u, rfl, ru, hb⟩
        have hbl := bl_behind (w := w) hb (bl_alloc HBL.out _)
        have hblk := (HBLK.out.alloc _).below hb (HBLK.out.alloc _).lt
        have bx := (Blk.new _ _ _).below hb (by simp)
        have hrow := (HROW.out.alloc _).below hb
        have HF : Hid (fcGood xs → frChain x y = xs) := Lib.hid (fun g => by have g2 := g.2; rw [show fcBk xs = (x, y) from HK.out.1] at g2; exact g2)
        have HG : Hid (frChain x y = xs → fcGood xs ∧ fcBk xs = (x, y)) := Lib.hid (fun e => ⟨⟨by have := HN.out; omega, by rw [show fcBk xs = (x, y) from HK.out.1]; exact e⟩, HK.out.1⟩)
        generalize hys : frChain x y = ys at *
        clear hys
        obtain ⟨bo, cap2, rfl, hc2, hlc2, hY⟩ := ru.open_
        obtain ⟨ao', cap', e, -, -, hX⟩ := hrow.open_
        rw [HN.out] at hX e
        simp only [Value.slice.injEq, true_and] at e
        obtain ⟨rfl, rfl⟩ := e
        obtain ⟨g, rfl, cA, -⟩ := hX (by omega)
        have hm2 : (ys.length : Int) ≤ 9223372036854775807 := by unfold maxLen at hc2; omega
        obtain ⟨kx0, kx1, -, -, lx⟩ := blk2 bx
        obtain ⟨k0, k1, f0, f1, l0⟩ := blk2 hblk
        have HBLK := Lib.hid hblk
        have HBX := Lib.hid bx
        have HBL := Lib.hid hbl
        clear hb hbl hblk bx hrow ru HROW hX
        by_cases hl : ys.length = n
        · have HL := Lib.hid hl
          generalize hln : ys.length = n2 at *
          subst hl
          obtain ⟨g2, rfl, cB, -⟩ := hY (by omega)
          clear hY
          have hll : ((n2 : Int) == (n2 : Int)) = true := by simp
          have HLN := Lib.hid hln
          clear hln
          have HCA := Lib.hid cA
          have HCB := Lib.hid cB
          clear cA cB
          go_wp2_with fail
          go_loopw [10] (fun i wr2 => ∃ k q : Nat, i = .int .i64 k ∧ k ≤ n2 ∧ wr2 = w1.drewN q ∧ Hid (∀ j, j < k → ys.getD j 0 = xs.getD j 0)) (fun i _ => n2 - (RowKit.intOf i).toNat)
          case atStart => exact ⟨0, 0, rfl, Nat.zero_le _, rfl, Lib.hid (fun j hj => by omega)⟩
          case round =>
            obtain ⟨k, q, rfl, hk, rfl, HE⟩ := hrel
            rcases Nat.lt_or_ge k n2 with hlt | hge
            · have ca := HCA.out k hlt
              have cb := HCB.out k hlt
              have hki : (k : Int) < (n2 : Int) := by omega
              obtain ⟨a, ha⟩ : ∃ a, xs.getD k 0 = a := ⟨_, rfl⟩
              obtain ⟨b, hb⟩ : ∃ b, ys.getD k 0 = b := ⟨_, rfl⟩
              rw [ha] at ca
              rw [hb] at cb
              have HAB := Lib.hid (show b = a → ∀ j, j < k + 1 → ys.getD j 0 = xs.getD j 0 from fun e j hj => by
                rcases (by omega : j < k ∨ j = k) with h | rfl
                · exact HE.out j h
                · rw [ha, hb]; exact e)
              have HNE := Lib.hid (show b ≠ a → ¬ fcGood xs from fun e g => e (by rw [← hb, HF.out g, ha]))
              clear ha hb
              by_cases hab : b = a
              · subst hab
                have HAB2 := Lib.hid (HAB.out rfl)
                clear HAB
                go_wp2_with fail
                go_quiet (fail)
                go_wp2
                go_roundw
                case rel => exact ⟨k + 1, q + nq, by go_num, by omega, by first | rfl | exact World.drewN_drewN .., HAB2⟩
                case measure => simp [RowKit.intOf]; omega
              · have HE := Lib.hid (ret_no (HNE.out hab))
                have hd1 : (b == a) = false := by simpa using hab
                go_wp2_with fail
                go_quiet (fail)
                go_wp2_with fail
                have bk : Blk _ w.heap.size 41 #[.int .i64 0, .int .i64 0] := (HBLK.out.set 0 (.int .i64 0)).set 1 (.int .i64 0)
                obtain ⟨q0, q1, -, -, -⟩ := blk2 bk
                refine bodyPost_ret (v := .tuple #[.agg #[.int .i64 0, .int .i64 0], .bool false]) (by simp [results, Try.results42, go_sem, q0, q1]) rfl ?_
                have hb := HBL.out
                exact ⟨HE.out, (by repeat' (first | (with_reducible exact Below.refl _ _) | (with_reducible assumption) | (with_reducible refine below_drewN ?_ _) | (with_reducible refine Below.drew ?_) | (with_reducible refine bl_alloc ?_ _) | (with_reducible refine bl_set ?_ ?_ _) | go_size | omega))⟩
            · have e : k = n2 := by omega
              subst e
              have hyx : ys = xs := List.ext_getElem (by rw [HLN.out, HN.out]) (fun j h1 h2 => by
                have := HE.out j (by rw [HLN.out] at h1; exact h1)
                rw [List.getD_eq_getElem?_getD, List.getElem?_eq_getElem h1, List.getD_eq_getElem?_getD, List.getElem?_eq_getElem h2] at this
                exact this)
              obtain ⟨hg, hbk⟩ := HG.out hyx
              obtain ⟨y1, y2, y3⟩ := fc_yes hg
              rw [hbk] at y1 y2
              have HE2 := Lib.hid (ret_fc (xs := xs) (a := x) (b := y) (o := true) y1.symm y2.symm y3.symm)
              clear hyx hg hbk y1 y2 y3
              go_wp2_with fail
              have bk : Blk _ w.heap.size 41 #[.int .i64 x, .int .i64 y] := (HBLK.out.set 0 (.int .i64 x)).set 1 (.int .i64 y)
              obtain ⟨q0, q1, -, -, -⟩ := blk2 bk
              refine bodyPost_ret (v := .tuple #[.agg #[.int .i64 x, .int .i64 y], .bool true]) (by simp [results, Try.results42, go_sem, q0, q1]) rfl ?_
              have hb := HBL.out
              exact ⟨HE2.out, (by repeat' (first | (with_reducible exact Below.refl _ _) | (with_reducible assumption) | (with_reducible refine below_drewN ?_ _) | (with_reducible refine Below.drew ?_) | (with_reducible refine bl_alloc ?_ _) | (with_reducible refine bl_set ?_ ?_ _) | go_size | omega))⟩
        · have HE := Lib.hid (ret_no (xs := xs) (fun g => hl (by rw [HF.out g]; exact HN.out)))
          have hll : (((ys.length : Nat) : Int) == (n : Int)) = false := by simp; omega
          generalize ys.length = n2 at *
          clear hY cA HF HG
          go_wp2_with fail
          have bk : Blk _ w.heap.size 41 #[.int .i64 0, .int .i64 0] := (HBLK.out.set 0 (.int .i64 0)).set 1 (.int .i64 0)
          obtain ⟨q0, q1, -, -, -⟩ := blk2 bk
          refine bodyPost_ret (v := .tuple #[.agg #[.int .i64 0, .int .i64 0], .bool false]) (by simp [results, Try.results42, go_sem, q0, q1]) rfl ?_
          have hb := HBL.out
          exact ⟨HE.out, (by repeat' (first | (with_reducible exact Below.refl _ _) | (with_reducible assumption) | (with_reducible refine below_drewN ?_ _) | (with_reducible refine Below.drew ?_) | (with_reducible refine bl_alloc ?_ _) | (with_reducible refine bl_set ?_ ?_ _) | go_size | omega))⟩
      · obtain ⟨j, rfl⟩ : ∃ j, k = j + 1 := ⟨k - 1, by omega⟩
        rw [show ((j + 1 : Nat) : Int) - 1 = (j : Int) by omega]
        obtain ⟨ao', cap', e, -, -, ho⟩ := hrow.open_
        rw [HN.out] at ho e
        simp only [Value.slice.injEq, true_and] at e
        obtain ⟨rfl, rfl⟩ := e
        obtain ⟨g, rfl, cA, fA⟩ := ho (by omega)
        have ca := cA j (by omega)
        have hj : j < xs.length := by rw [HN.out]; omega
        have hx : (-1000001000000 ≤ x ∧ x ≤ 1000001000000) ∧ (-1000001000000 ≤ y ∧ y ≤ 1000001000000) := HK.out.2
        obtain ⟨z, hz⟩ : ∃ z, xs.getD j 0 = z := ⟨_, rfl⟩
        have HG := Lib.hid (fun hb => ret_no (bk_bad HK.out hj hb))
        have HT := Lib.hid (bk_step HK.out hj)
        rw [hz] at ca HG HT
        clear hz
        obtain ⟨k0, k1, f0, f1, l0⟩ := blk2 hblk
        clear cA fA ho hrow hblk hbl
        by_cases hz : -1000000 ≤ z ∧ z ≤ 1000000
        · by_cases hx2 : -1000000 ≤ x ∧ x ≤ 1000000
          · by_cases hy2 : -1000000 ≤ y ∧ y ≤ 1000000
            · have p := prod_bd hz.1 hz.2 hx2.1 hx2.2 hy2.1 hy2.2
              have HT := Lib.hid (HT.out hz.1 hz.2 hx2.1 hx2.2 hy2.1 hy2.2)
              go_wp2_with (first | (go_at_call 46; refine (l1in_yes _ _ _ _ (by omega) (by omega)).mono ?_; rintro e w' ⟨rfl, rfl⟩) | (go_at_call 46; refine (l1in_no _ _ _ _ (by omega)).mono ?_; rintro e w' ⟨rfl, rfl⟩))
              go_roundw
              case rel => exact ⟨j, z * x + y, x, rfl, rfl, rfl, by omega, HROW.out, HBLK.out, HBL.out, HT⟩
              case measure => first | (simp [RowKit.intOf]; done) | (simp [RowKit.intOf]; omega)
            · have HE := Lib.hid (HG.out (fun c => hy2 c.2.2))
              go_wp2_with (first | (go_at_call 46; refine (l1in_yes _ _ _ _ (by omega) (by omega)).mono ?_; rintro e w' ⟨rfl, rfl⟩) | (go_at_call 46; refine (l1in_no _ _ _ _ (by omega)).mono ?_; rintro e w' ⟨rfl, rfl⟩))
              have bk : Blk _ w.heap.size 41 #[.int .i64 0, .int .i64 0] := (HBLK.out.set 0 (.int .i64 0)).set 1 (.int .i64 0)
              obtain ⟨q0, q1, -, -, -⟩ := blk2 bk
              refine bodyPost_ret (v := .tuple #[.agg #[.int .i64 0, .int .i64 0], .bool false]) (by simp [results, Try.results42, go_sem, q0, q1]) rfl ?_
              have hb := HBL.out
              exact ⟨HE.out, (by repeat' (first | (with_reducible exact Below.refl _ _) | (with_reducible assumption) | (with_reducible refine below_drewN ?_ _) | (with_reducible refine Below.drew ?_) | (with_reducible refine bl_alloc ?_ _) | (with_reducible refine bl_set ?_ ?_ _) | go_size | omega))⟩
          · have HE := Lib.hid (HG.out (fun c => hx2 c.2.1))
            go_wp2_with (first | (go_at_call 46; refine (l1in_yes _ _ _ _ (by omega) (by omega)).mono ?_; rintro e w' ⟨rfl, rfl⟩) | (go_at_call 46; refine (l1in_no _ _ _ _ (by omega)).mono ?_; rintro e w' ⟨rfl, rfl⟩))
            have bk : Blk _ w.heap.size 41 #[.int .i64 0, .int .i64 0] := (HBLK.out.set 0 (.int .i64 0)).set 1 (.int .i64 0)
            obtain ⟨q0, q1, -, -, -⟩ := blk2 bk
            refine bodyPost_ret (v := .tuple #[.agg #[.int .i64 0, .int .i64 0], .bool false]) (by simp [results, Try.results42, go_sem, q0, q1]) rfl ?_
            have hb := HBL.out
            exact ⟨HE.out, (by repeat' (first | (with_reducible exact Below.refl _ _) | (with_reducible assumption) | (with_reducible refine below_drewN ?_ _) | (with_reducible refine Below.drew ?_) | (with_reducible refine bl_alloc ?_ _) | (with_reducible refine bl_set ?_ ?_ _) | go_size | omega))⟩
        · have HE := Lib.hid (HG.out (fun c => hz c.1))
          go_wp2_with (first | (go_at_call 46; refine (l1in_yes _ _ _ _ (by omega) (by omega)).mono ?_; rintro e w' ⟨rfl, rfl⟩) | (go_at_call 46; refine (l1in_no _ _ _ _ (by omega)).mono ?_; rintro e w' ⟨rfl, rfl⟩))
          have bk : Blk _ w.heap.size 41 #[.int .i64 0, .int .i64 0] := (HBLK.out.set 0 (.int .i64 0)).set 1 (.int .i64 0)
          obtain ⟨q0, q1, -, -, -⟩ := blk2 bk
          refine bodyPost_ret (v := .tuple #[.agg #[.int .i64 0, .int .i64 0], .bool false]) (by simp [results, Try.results42, go_sem, q0, q1]) rfl ?_
          have hb := HBL.out
          exact ⟨HE.out, (by repeat' (first | (with_reducible exact Below.refl _ _) | (with_reducible assumption) | (with_reducible refine below_drewN ?_ _) | (with_reducible refine Below.drew ?_) | (with_reducible refine bl_alloc ?_ _) | (with_reducible refine bl_set ?_ ?_ _) | go_size | omega))⟩
  · have HE := Lib.hid (ret_no (xs := xs) (fun g => hn g.1))
    clear h HR
    generalize xs.length = n at *
    go_enter Try.func42, Try.ntmps42
    go_wp2_with (first | (go_at_call 46; refine (l1in_yes _ _ _ _ (by omega) (by omega)).mono ?_; rintro e w' ⟨rfl, rfl⟩) | (go_at_call 46; refine (l1in_no _ _ _ _ (by omega)).mono ?_; rintro e w' ⟨rfl, rfl⟩))
    refine bodyPost_ret (v := .tuple #[.agg #[.int .i64 0, .int .i64 0], .bool false]) (by simp [results, Try.results42, go_sem]) rfl ?_
    exact ⟨HE.out, (by repeat' (first | (with_reducible exact Below.refl _ _) | (with_reducible assumption) | (with_reducible refine below_drewN ?_ _) | (with_reducible refine Below.drew ?_) | (with_reducible refine bl_alloc ?_ _) | (with_reducible refine bl_set ?_ ?_ _) | go_size | omega))⟩

end Go.Proofs.Ytdpekaejklmomaa

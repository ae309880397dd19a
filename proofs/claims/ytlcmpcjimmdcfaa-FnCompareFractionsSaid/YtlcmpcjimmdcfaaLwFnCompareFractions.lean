/- Greater fractions stay greater: with the same one added to both the comparison is the same; in the other order it has the other sign. No condition. -/
import Derived.Test.YtlcmpcjimmdcfaaDrawF2
import Derived.Test.YtlcmpcjimmdcfaaFracP
import Derived.Test.YtlcmpcjimmdcfaaAlive
namespace Go.Proofs.Ytlcmpcjimmdcfaa
open Go.ChangeShapes Go.WideShapes Go.ChangeAt Go.RowKit

attribute [local go_sem] alloc_drewN' setCell_drewN'
set_option maxHeartbeats 4000000 in
theorem fnCompareFractions.walk (w : World) (a : Option Addr) (len cap : Nat) (zs : List Int) (hrow : IsRow .u8 w a len cap zs) :
    Calls Try.prog 14 #[.slice a len cap] w fun e w' => e = .returned (.bool true) ∧ Below w.heap.size w w' := by
  obtain ⟨hl1, hl2, -⟩ := code_of_row hrow
  have hm : (len : Int) ≤ 9223372036854775807 := by unfold maxLen at hl2; omega
  by_cases hbig : (1048576 : Int) < (len : Int)
  · clear hrow hl1 hl2
    go_enter Try.func14, Try.ntmps14
    go_wp2
    go_ret
    exact ⟨rfl, Below.refl _ _⟩
  · skip
    go_enter Try.func14, Try.ntmps14
    go_wp2_with fail
    refine (drawcomparefractions_any hrow).mono ?_
    rintro e w1 ⟨a, b, c, d, hA, hC, rfl, hb⟩
    have HB := Lib.hid hb
    clear hb hrow hl1 hl2
    go_wp2_with fail
    refine (frcmp_impl _ _ _ _ _).mono ?_
    rintro e w2 ⟨rfl, hb⟩
    have ba := ((Blk.new w1 _ _).alloc _).below hb (by simp; omega)
    have bb := (Blk.new (w1.alloc _) _ _).below hb (by simp)
    rw [World.size_alloc] at bb
    obtain ⟨ka0, ka1, -, -, la⟩ := blk2 ba
    obtain ⟨kb0, kb1, -, -, lb⟩ := blk2 bb
    have Ba := Lib.hid ba
    have Bb := Lib.hid bb
    (repeat (replace hb := unalloc hb))
    have HB := Lib.hid (HB.out.trans (hb.mono HB.out.size))
    clear hb ba bb
    go_wp2_with fail
    refine (frcmp_spec _ _ _ _ _).mono ?_
    rintro e w3 ⟨rfl, hb⟩
    (repeat (replace hb := undrew hb)); (repeat (replace hb := unalloc hb)); have ba := Ba.out.below hb Ba.out.lt; obtain ⟨ka0, ka1, -, -, la⟩ := blk2 ba; have Ba := Lib.hid ba; clear ba; have bb := Bb.out.below hb Bb.out.lt; obtain ⟨kb0, kb1, -, -, lb⟩ := blk2 bb; have Bb := Lib.hid bb; clear bb; have HB := Lib.hid (HB.out.trans (hb.mono HB.out.size)); clear hb
    by_cases hok : frOk a b = true ∧ frOk c d = true
    · obtain ⟨g1, g2⟩ := hok
      have e1 := frCmp_in g1 g2
      have e2 := frCmp_in g2 g1
      rw [cmpI_turn] at e2
      rw [e1]
      obtain ⟨n, hn⟩ : ∃ n, cmpI (a * d) (c * b) = n := ⟨_, rfl⟩
      have hn3 : n = -1 ∨ n = 0 ∨ n = 1 := by
        rcases Int.lt_trichotomy (a * d) (c * b) with h | h | h
        · rw [cmpI_lt h] at hn; omega
        · rw [cmpI_eq h] at hn; omega
        · rw [cmpI_gt h] at hn; omega
      have hz : n = 0 ↔ (a = c ∧ b = d) := by
        rw [← hn, cmpI_zero]
        exact ⟨fun h => frOk_same g1 g2 h, fun h => by rw [h.1, h.2]⟩
      rw [hn] at e2
      rw [hn]
      have HN := Lib.hid hn
      have E2 := Lib.hid e2
      have HZ := Lib.hid hz
      clear e1 e2 hn hz
      go_wp2_with fail
      refine (frcmp_impl _ _ _ _ _).mono ?_
      rintro e w4 ⟨rfl, hb⟩
      rw [E2.out]; (repeat (replace hb := undrew hb)); (repeat (replace hb := unalloc hb)); have ba := Ba.out.below hb Ba.out.lt; obtain ⟨ka0, ka1, -, -, la⟩ := blk2 ba; have Ba := Lib.hid ba; clear ba; have bb := Bb.out.below hb Bb.out.lt; obtain ⟨kb0, kb1, -, -, lb⟩ := blk2 bb; have Bb := Lib.hid bb; clear bb; have HB := Lib.hid (HB.out.trans (hb.mono HB.out.size)); clear hb
      go_wp2_with fail
      refine (fradd_impl _ _ _ _ _).mono ?_
      rintro e w5 ⟨p1, p2, po, rfl, hs, hb⟩
      have HP := Lib.hid hs; clear hs; (repeat (replace hb := undrew hb)); have bh := (Blk.new _ _ _).below hb (by simp); (try rw [World.size_alloc] at bh); have Bh := Lib.hid bh; obtain ⟨kh0, kh1, -, -, lh⟩ := blk2 bh; clear bh; (repeat (replace hb := unalloc hb)); have ba := Ba.out.below hb Ba.out.lt; obtain ⟨ka0, ka1, -, -, la⟩ := blk2 ba; have Ba := Lib.hid ba; clear ba; have bb := Bb.out.below hb Bb.out.lt; obtain ⟨kb0, kb1, -, -, lb⟩ := blk2 bb; have Bb := Lib.hid bb; clear bb; have HB := Lib.hid (HB.out.trans (hb.mono HB.out.size)); clear hb
      go_wp2_with fail
      refine (fradd_impl _ _ _ _ _).mono ?_
      rintro e w6 ⟨q1, q2, qo, rfl, hs, hb⟩
      have HQ := Lib.hid hs; clear hs; (repeat (replace hb := undrew hb)); have bp := (Blk.new _ _ _).below hb (by simp); (try rw [World.size_alloc] at bp); have Bp := Lib.hid bp; obtain ⟨kp0, kp1, -, -, lp⟩ := blk2 bp; clear bp; (repeat (replace hb := unalloc hb)); have ba := Ba.out.below hb Ba.out.lt; obtain ⟨ka0, ka1, -, -, la⟩ := blk2 ba; have Ba := Lib.hid ba; clear ba; have bb := Bb.out.below hb Bb.out.lt; obtain ⟨kb0, kb1, -, -, lb⟩ := blk2 bb; have Bb := Lib.hid bb; clear bb; have bh := Bh.out.below hb Bh.out.lt; obtain ⟨kh0, kh1, -, -, lh⟩ := blk2 bh; have Bh := Lib.hid bh; clear bh; have HB := Lib.hid (HB.out.trans (hb.mono HB.out.size)); clear hb
      go_wp2_with fail
      refine (frcmp_impl _ _ _ _ _).mono ?_
      rintro e w7 ⟨rfl, hb⟩
      (repeat (replace hb := undrew hb)); have bq := (Blk.new _ _ _).below hb (by simp); (try rw [World.size_alloc] at bq); have Bq := Lib.hid bq; obtain ⟨kq0, kq1, -, -, lq⟩ := blk2 bq; clear bq; (repeat (replace hb := unalloc hb)); have ba := Ba.out.below hb Ba.out.lt; obtain ⟨ka0, ka1, -, -, la⟩ := blk2 ba; have Ba := Lib.hid ba; clear ba; have bb := Bb.out.below hb Bb.out.lt; obtain ⟨kb0, kb1, -, -, lb⟩ := blk2 bb; have Bb := Lib.hid bb; clear bb; have bh := Bh.out.below hb Bh.out.lt; obtain ⟨kh0, kh1, -, -, lh⟩ := blk2 bh; have Bh := Lib.hid bh; clear bh; have bp := Bp.out.below hb Bp.out.lt; obtain ⟨kp0, kp1, -, -, lp⟩ := blk2 bp; have Bp := Lib.hid bp; clear bp; have HB := Lib.hid (HB.out.trans (hb.mono HB.out.size)); clear hb
      by_cases hall : po = true ∧ qo = true
      · obtain ⟨rfl, rfl⟩ := hall
        have hmm := (cmpF_more HP.out HQ.out).trans HN.out
        have hpp := frAdd_good HP.out
        have hqq := frAdd_good HQ.out
        rw [frCmp_in hpp.2.2.1 hqq.2.2.1, hmm]
        clear hpp hqq hmm
        by_cases hac : a = c ∧ b = d
        · obtain ⟨rfl, rfl⟩ := hac
          obtain rfl := HZ.out.2 ⟨rfl, rfl⟩
          clear hn3
          go_wp2_with fail
          all_goals (go_ret; have hb := HB.out; have := hb.size; refine ⟨ret_bool ?_, (by repeat' (first | (with_reducible exact Below.refl _ _) | (with_reducible assumption) | (with_reducible refine below_drewN ?_ _) | (with_reducible refine Below.drew ?_) | (with_reducible refine bl_alloc ?_ _) | (with_reducible refine bl_set ?_ ?_ _) | go_size | omega))⟩; first | rfl | (simp; done) | (exfalso; omega) | (simp; omega))
        · have hn0 : n ≠ 0 := fun h => hac (HZ.out.1 h)
          go_wp2_with fail
          all_goals (go_ret; have hb := HB.out; have := hb.size; refine ⟨ret_bool ?_, (by repeat' (first | (with_reducible exact Below.refl _ _) | (with_reducible assumption) | (with_reducible refine below_drewN ?_ _) | (with_reducible refine Below.drew ?_) | (with_reducible refine bl_alloc ?_ _) | (with_reducible refine bl_set ?_ ?_ _) | go_size | omega))⟩; first | rfl | (simp; done) | (exfalso; omega) | (simp; omega))
      · rcases (by cases po <;> cases qo <;> simp_all : po = false ∨ (po = true ∧ qo = false)) with rfl | ⟨rfl, rfl⟩
        all_goals
          clear hall
          have hz := HZ.out
          go_wp2_with fail
          all_goals (go_ret; have hb := HB.out; have := hb.size; refine ⟨ret_bool ?_, (by repeat' (first | (with_reducible exact Below.refl _ _) | (with_reducible assumption) | (with_reducible refine below_drewN ?_ _) | (with_reducible refine Below.drew ?_) | (with_reducible refine bl_alloc ?_ _) | (with_reducible refine bl_set ?_ ?_ _) | go_size | omega))⟩; first | rfl | (simp; done) | (exfalso; omega) | (simp; omega))
    · have e1 : frCmp a b c d = (0, false) := frCmp_out (by cases h : frOk a b <;> cases h' : frOk c d <;> simp_all)
      rw [e1]
      clear hok e1
      go_wp2_with (first | (go_at_call 18; refine (alive_any _).mono ?_; rintro e w' ⟨rfl, rfl⟩))
      go_ret
      have hb := HB.out
      have := hb.size
      exact ⟨rfl, (by repeat' (first | (with_reducible exact Below.refl _ _) | (with_reducible assumption) | (with_reducible refine below_drewN ?_ _) | (with_reducible refine Below.drew ?_) | (with_reducible refine bl_alloc ?_ _) | (with_reducible refine bl_set ?_ ?_ _) | go_size | omega))⟩

/-! THE ROW's STEP of FnCompareFractions: from the contract of the law's walk to the given statement. -/
namespace fnCompareFractions
set_option maxRecDepth 100000 in
theorem lifted (os : Os) (started : os.Started) (H : Type) (enc : TypeId × Value → H) :
    ReturnsInHanded {} Try.checked os 14 .any (Rows.fnCompareFractionsSpec.pre6 enc Try.prog Try.f14 Rows.fnCompareFractionsRow.domain false) (Rows.fnCompareFractionsSpec.post enc Try.prog Try.f14 false true false false) := by
  refine returnsInHanded_of_change (C := Try.checked) own started (by kernel_rfl) Try.func14
    (ChangeSpec.witness6 (enc := enc) (C := Try.checked) false ⟨#[], #[.slice none 0 0], []⟩ 8 (by kernel_rfl) (by kernel_rfl) (by kernel_rfl) (by kernel_rfl)) ?_
  intro W base args ds gs before hval0 hW hcnd _
  have hval : ∀ (j : Nat) t v, Try.f14.params[j]? = some t → args[j]? = some v → Value.okWide Try.prog W .any base t v := hval0
  have hW' := hW
  obtain ⟨p, q, hA0, hV, rfl, hfz, hnd⟩ := hW
  have hA : DataW.TrodAll enc Try.prog W 0 (fun _ => true) true Try.f14.params.toList args.toList ds p := hA0
  rw [Try.params14] at hA hval
  obtain ⟨v0, vs0, d0, ds0, p0, q0, hargs, rfl, rfl, h0, r0⟩ := trodAll_cons hA
  obtain ⟨rfl, rfl, rfl⟩ := trodAll_nil r0
  obtain rfl : args = #[v0] := by cases args; simp_all
  obtain ⟨rfl, rfl⟩ := trodVars_none hV
  have k0 := h0
  have lt0 : ∀ x ∈ p0, x.block < W.heap.size := by obtain ⟨m, hm⟩ := k0; exact DataW.trod_lt m _ _ _ hm
  obtain ⟨a0, len0, cap0, rfl⟩ := okWide_slice Try.underlying24 (hval 0 24 v0 rfl rfl)
  obtain ⟨z0, w0⟩ : ∃ zs, IsRow .u8 W a0 len0 cap0 zs := by
    obtain ⟨fuel, hf⟩ := h0
    rcases open_ints Try.underlying24 Try.underlying5 (by kernel_rfl) hf with ⟨hcs, _⟩ | ⟨x, l, c, zs, hcs, _, hl, hm, hz, _, hcell, hwz⟩
    · simp [Value.cells] at hcs
      obtain ⟨rfl, rfl, rfl⟩ := hcs
      exact ⟨[], .inl ⟨rfl, rfl, rfl, rfl⟩⟩
    · simp [Value.cells] at hcs
      obtain ⟨rfl, rfl, rfl⟩ := hcs
      exact ⟨zs, .inr ⟨_, rfl, hl, hm, by simpa using hz, hcell, hwz, isRow_lt hcell⟩⟩
  clear hA0 hval0
  refine (walk W a0 len0 cap0 z0 w0).mono fun e W' ⟨he, bel⟩ => ?_
  subst he
  exact ⟨_, rfl, _, _, _, [], _, [], hW', trodAll_mk1 (shut_bool Try.underlying4 _), (trodAll_cons_mk (Below.trod laidOut (by kernel_rfl) (of_decide_eq_true (by kernel_rfl)) k0 bel lt0) trodAll_mk0), rfl, bel.frame _, fun h => by cases h⟩
end fnCompareFractions

theorem fnCompareFractions_holds : Rows.FnCompareFractionsSaid :=
  OpenClaim.holds_of_wide 14 Try.f14 rfl rfl rfl rfl rfl rfl rfl ⟨rfl, rfl, rfl, rfl, rfl⟩ rfl rfl rfl rfl rfl (by kernel_rfl) Try.func14 (by kernel_rfl)
    (of_decide_eq_true (by kernel_rfl)) (by unfold Func.isWrapper; first | (rw [if_pos (by decide +kernel)]; kernel_rfl) | (rw [if_neg (by decide +kernel)]; exact ⟨rfl, rfl⟩))
    (fun os started H enc _ => fnCompareFractions.lifted os started H enc)
#print axioms fnCompareFractions_holds

end Go.Proofs.Ytlcmpcjimmdcfaa

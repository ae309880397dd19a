/- Chains tell fractions: FromChain of the quotients is the fraction; and the last one is not 1, if there is another one. No condition. -/
import Derived.Test.YtdpekaejklmomaaFci
import Derived.Test.YtdpekaejklmomaaDrawCh
import Derived.Test.YtdpekaejklmomaaAlive
namespace Go.Proofs.Ytdpekaejklmomaa
open Go.ChangeShapes Go.WideShapes Go.ChangeAt Go.RowKit

theorem fc_chain {p q : Int} (h : frOk p q = true) : fcA (frChain p q) = p ∧ fcB (frChain p q) = q ∧ fcOk (frChain p q) = true := by
  have h1 := frOk_mk h
  obtain ⟨g, e⟩ := chain_good h (chain_len40 (by omega) (by omega))
  rw [frChain_in h]
  obtain ⟨y1, y2, y3⟩ := fc_yes g
  rw [e] at y1 y2
  exact ⟨y1, y2, y3⟩
theorem frChain_shape {p q : Int} (h : frOk p q = true) : ∃ m, (frChain p q).length = m + 1 ∧ (m = 0 ∨ (0 < m ∧ 2 ≤ (frChain p q).getD m 0)) := by
  have h1 := frOk_mk h
  rw [frChain_in h]
  have hp := chainL_pos (a := p) (b := q) (by omega)
  obtain ⟨m, hm⟩ : ∃ m, (chainL p q).length = m + 1 := ⟨(chainL q (p % q)).length, by rw [hp]; rfl⟩
  refine ⟨m, hm, ?_⟩
  rcases (by omega : m = 0 ∨ 0 < m) with h0 | h0
  · exact .inl h0
  · have := chain_last (m - 1) p q (by omega) (by omega)
    rw [show m - 1 + 1 = m by omega] at this
    exact .inr ⟨h0, this⟩
theorem heap_cell_lt {w : World} {g j : Nat} {v : Value} (h : w.cell? ⟨g, j, none⟩ = some v) : g < w.heap.size := by
  rcases Nat.lt_or_ge g w.heap.size with h1 | h1
  · exact h1
  · simp [World.cell?, Array.getElem?_eq_none h1] at h
attribute [local go_sem] alloc_drewN' setCell_drewN'
set_option maxHeartbeats 4000000 in
theorem fnChainOf.walk (w : World) (a : Option Addr) (len cap : Nat) (zs : List Int) (hrow : IsRow .u8 w a len cap zs) :
    Calls Try.prog 10 #[.slice a len cap] w fun e w' => e = .returned (.bool true) ∧ Below w.heap.size w w' := by
  obtain ⟨hl1, hl2, -⟩ := code_of_row hrow
  have hm : (len : Int) ≤ 9223372036854775807 := by unfold maxLen at hl2; omega
  by_cases hbig : (1048576 : Int) < (len : Int)
  · clear hrow hl1 hl2
    go_enter Try.func10, Try.ntmps10
    go_wp2
    go_ret
    exact ⟨rfl, Below.refl _ _⟩
  · have HROW := Lib.hid hrow
    have HB := Lib.hid (Below.refl w.heap.size w)
    clear hl1 hl2 hrow
    go_enter Try.func10, Try.ntmps10
    go_wp2_with fail
    refine (drawchainof_any HROW.out).mono ?_
    rintro e w1 ⟨p, q, hA, rfl, hb⟩
    have hw := bl_behind (w := w) hb (by have hb0 := HB.out; repeat (first | (with_reducible exact hb0) | (with_reducible refine below_drewN ?_ _) | (with_reducible refine Below.drew ?_) | (with_reducible refine bl_alloc ?_ _))); have HB := Lib.hid hw; clear hw hb
    have hsz1 := HB.out.size
    have CI := Lib.hid (fun w' => chain_impl p q w')
    have CS := Lib.hid (fun w' => chain_spec p q w')
    have FV := Lib.hid (fun w' => fv_impl p q w')
    have hl40 := frChain_len40 p q
    rcases hf : frOk p q
    · rw [hf] at FV
      rw [frChain_out hf] at CI CS
      clear hf hl40 hA
      go_wp2_with fail
      refine (CI.out _).mono ?_
      rintro e w2 ⟨v, rfl, rv, hb⟩
      have hz2 := hb.size
      have hw := bl_behind (w := w) hb (by have hb0 := HB.out; repeat (first | (with_reducible exact hb0) | (with_reducible refine below_drewN ?_ _) | (with_reducible refine Below.drew ?_) | (with_reducible refine bl_alloc ?_ _))); have bx := Blk.below (g := w1.heap.size) (t := 41) (cs := #[.int .i64 p, .int .i64 q]) (by repeat (first | (with_reducible exact Bx.out) | (with_reducible exact Blk.new _ _ _) | (with_reducible refine Blk.drewN ?_ _) | (with_reducible refine Blk.drew ?_) | (with_reducible refine Blk.alloc ?_ _))) hb (by first | (have := Bx.out.lt; first | omega | (simp; omega)) | (simp; done) | (simp; omega)); have Bx := Lib.hid bx; obtain ⟨kx0, kx1, fx0, fx1, lx⟩ := blk2 bx; clear bx; have HB := Lib.hid hw; clear hw hb
      obtain ⟨ao, cap1, rfl, -⟩ := rv.open_
      have Rv : Hid (Row w2 w.heap.size (.slice ao 0 cap1) []) := Lib.hid (rv.lower (b := w.heap.size) (by rw [World.size_alloc]; omega))
      clear rv
      go_wp2_with fail
      refine (CS.out _).mono ?_
      rintro e w3 ⟨u, rfl, ru, hb⟩
      have hw := bl_behind (w := w) hb (by have hb0 := HB.out; repeat (first | (with_reducible exact hb0) | (with_reducible refine below_drewN ?_ _) | (with_reducible refine Below.drew ?_) | (with_reducible refine bl_alloc ?_ _))); have bx := Blk.below (g := w1.heap.size) (t := 41) (cs := #[.int .i64 p, .int .i64 q]) (by repeat (first | (with_reducible exact Bx.out) | (with_reducible exact Blk.new _ _ _) | (with_reducible refine Blk.drewN ?_ _) | (with_reducible refine Blk.drew ?_) | (with_reducible refine Blk.alloc ?_ _))) hb (by first | (have := Bx.out.lt; first | omega | (simp; omega)) | (simp; done) | (simp; omega)); have Bx := Lib.hid bx; obtain ⟨kx0, kx1, fx0, fx1, lx⟩ := blk2 bx; clear bx; have rv := Row.below (base := w.heap.size) (v := (.slice ao 0 cap1)) (xs := ([] : List Int)) (by repeat (first | (with_reducible exact Rv.out) | (with_reducible refine Row.drewN ?_ _) | (with_reducible refine Row.alloc ?_ _))) hb; have Rv := Lib.hid rv; clear rv; have HB := Lib.hid hw; clear hw hb
      go_wp2_with fail
      refine (same_any Rv.out ru).mono ?_
      rintro e w4 ⟨rfl, qn, rfl⟩
      go_wp2_with (first | (go_at_call 34; refine (FV.out _).mono ?_; rintro e w' ⟨rfl, mm, rfl⟩) | (go_at_call 18; refine (alive_any _).mono ?_; rintro e w' ⟨rfl, rfl⟩))
      go_ret
      have hb := HB.out
      exact ⟨rfl, (by repeat' (first | (with_reducible exact Below.refl _ _) | (with_reducible assumption) | (with_reducible refine below_drewN ?_ _) | (with_reducible refine Below.drew ?_) | (with_reducible refine bl_alloc ?_ _) | (with_reducible refine bl_set ?_ ?_ _) | go_size | omega))⟩
    · obtain ⟨y1, y2, y3⟩ := fc_chain hf
      obtain ⟨n, hn, hn2⟩ := frChain_shape hf
      have FI : Hid (∀ w' base v, Row w' base v (frChain p q) → Calls Try.prog 35 #[v] w' fun e w'' => e = .returned (.tuple #[.agg #[.int .i64 p, .int .i64 q], .bool true]) ∧ Below w'.heap.size w' w'') := Lib.hid (fun w' base v h => by have k := fch_impl h; rw [y1, y2, y3] at k; exact k)
      rw [hf] at FV
      clear hf hA y1 y2 y3
      generalize frChain p q = ys at *
      go_wp2_with fail
      refine (CI.out _).mono ?_
      rintro e w2 ⟨v, rfl, rv, hb⟩
      have hz2 := hb.size
      have hw := bl_behind (w := w) hb (by have hb0 := HB.out; repeat (first | (with_reducible exact hb0) | (with_reducible refine below_drewN ?_ _) | (with_reducible refine Below.drew ?_) | (with_reducible refine bl_alloc ?_ _))); have bx := Blk.below (g := w1.heap.size) (t := 41) (cs := #[.int .i64 p, .int .i64 q]) (by repeat (first | (with_reducible exact Bx.out) | (with_reducible exact Blk.new _ _ _) | (with_reducible refine Blk.drewN ?_ _) | (with_reducible refine Blk.drew ?_) | (with_reducible refine Blk.alloc ?_ _))) hb (by first | (have := Bx.out.lt; first | omega | (simp; omega)) | (simp; done) | (simp; omega)); have Bx := Lib.hid bx; obtain ⟨kx0, kx1, fx0, fx1, lx⟩ := blk2 bx; clear bx; have HB := Lib.hid hw; clear hw hb
      obtain ⟨ao, cap1, rfl, hcm1, hcl1, -⟩ := rv.open_
      have Rv := Lib.hid (rv.lower (b := w.heap.size) (by rw [World.size_alloc]; omega))
      clear rv
      rw [hn] at Rv hl40
      rw [hn]
      go_wp2_with fail
      refine (CS.out _).mono ?_
      rintro e w3 ⟨u, rfl, ru, hb⟩
      have hw := bl_behind (w := w) hb (by have hb0 := HB.out; repeat (first | (with_reducible exact hb0) | (with_reducible refine below_drewN ?_ _) | (with_reducible refine Below.drew ?_) | (with_reducible refine bl_alloc ?_ _))); have bx := Blk.below (g := w1.heap.size) (t := 41) (cs := #[.int .i64 p, .int .i64 q]) (by repeat (first | (with_reducible exact Bx.out) | (with_reducible exact Blk.new _ _ _) | (with_reducible refine Blk.drewN ?_ _) | (with_reducible refine Blk.drew ?_) | (with_reducible refine Blk.alloc ?_ _))) hb (by first | (have := Bx.out.lt; first | omega | (simp; omega)) | (simp; done) | (simp; omega)); have Bx := Lib.hid bx; obtain ⟨kx0, kx1, fx0, fx1, lx⟩ := blk2 bx; clear bx; have rv := Row.below (base := w.heap.size) (v := (.slice ao (n + 1) cap1)) (xs := ys) (by repeat (first | (with_reducible exact Rv.out) | (with_reducible refine Row.drewN ?_ _) | (with_reducible refine Row.alloc ?_ _))) hb; have Rv := Lib.hid rv; clear rv; have HB := Lib.hid hw; clear hw hb
      go_wp2_with fail
      refine (same_any Rv.out ru).mono ?_
      rintro e w4 ⟨rfl, qn, rfl⟩
      clear ru
      go_wp2_with (first | (go_at_call 34; refine (FV.out _).mono ?_; rintro e w' ⟨rfl, mm, rfl⟩))
      refine (FI.out _ w.heap.size _ (by repeat (first | (with_reducible exact Rv.out) | (with_reducible refine Row.drewN ?_ _) | (with_reducible refine Row.alloc ?_ _))) ).mono ?_
      rintro e w5 ⟨rfl, hb⟩
      have hw := bl_behind (w := w) hb (by have hb0 := HB.out; repeat (first | (with_reducible exact hb0) | (with_reducible refine below_drewN ?_ _) | (with_reducible refine Below.drew ?_) | (with_reducible refine bl_alloc ?_ _))); have bx := Blk.below (g := w1.heap.size) (t := 41) (cs := #[.int .i64 p, .int .i64 q]) (by repeat (first | (with_reducible exact Bx.out) | (with_reducible exact Blk.new _ _ _) | (with_reducible refine Blk.drewN ?_ _) | (with_reducible refine Blk.drew ?_) | (with_reducible refine Blk.alloc ?_ _))) hb (by first | (have := Bx.out.lt; first | omega | (simp; omega)) | (simp; done) | (simp; omega)); have Bx := Lib.hid bx; obtain ⟨kx0, kx1, fx0, fx1, lx⟩ := blk2 bx; clear bx; have rv := Row.below (base := w.heap.size) (v := (.slice ao (n + 1) cap1)) (xs := ys) (by repeat (first | (with_reducible exact Rv.out) | (with_reducible refine Row.drewN ?_ _) | (with_reducible refine Row.alloc ?_ _))) hb; have Rv := Lib.hid rv; clear rv; have HB := Lib.hid hw; clear hw hb
      have hrv := Rv.out
      obtain ⟨ao', cap', e, -, -, ho⟩ := hrv.open_
      rw [hn] at ho e
      simp only [Value.slice.injEq, true_and] at e
      obtain ⟨rfl, rfl⟩ := e
      obtain ⟨g, rfl, cA, -⟩ := ho (by omega)
      have ca := cA n (by omega)
      have hgl := heap_cell_lt ca
      clear cA ho hrv
      generalize ys.getD n 0 = z at *
      rcases hn2 with rfl | ⟨hn0, hz⟩
      all_goals
        go_wp2_with fail
        go_ret
        have hb := HB.out
        exact ⟨ret_bool (by first | rfl | (simp; done) | (simp; omega)), (by repeat' (first | (with_reducible exact Below.refl _ _) | (with_reducible assumption) | (with_reducible refine below_drewN ?_ _) | (with_reducible refine Below.drew ?_) | (with_reducible refine bl_alloc ?_ _) | (with_reducible refine bl_set ?_ ?_ _) | go_size | omega))⟩

/-! THE ROW's STEP of FnChainOf: from the contract of the law's walk to the given statement. -/
namespace fnChainOf
set_option maxRecDepth 100000 in
theorem lifted (os : Os) (started : os.Started) (H : Type) (enc : TypeId × Value → H) :
    ReturnsInHanded {} Try.checked os 10 .any (Rows.fnChainOfSpec.pre6 enc Try.prog Try.f10 Rows.fnChainOfRow.domain false) (Rows.fnChainOfSpec.post enc Try.prog Try.f10 false true false false) := by
  refine returnsInHanded_of_change (C := Try.checked) own started (by kernel_rfl) Try.func10
    (ChangeSpec.witness6 (enc := enc) (C := Try.checked) false ⟨#[], #[.slice none 0 0], []⟩ 8 (by kernel_rfl) (by kernel_rfl) (by kernel_rfl) (by kernel_rfl)) ?_
  intro W base args ds gs before hval0 hW hcnd _
  have hval : ∀ (j : Nat) t v, Try.f10.params[j]? = some t → args[j]? = some v → Value.okWide Try.prog W .any base t v := hval0
  have hW' := hW
  obtain ⟨p, q, hA0, hV, rfl, hfz, hnd⟩ := hW
  have hA : DataW.TrodAll enc Try.prog W 0 (fun _ => true) true Try.f10.params.toList args.toList ds p := hA0
  rw [Try.params10] at hA hval
  obtain ⟨v0, vs0, d0, ds0, p0, q0, hargs, rfl, rfl, h0, r0⟩ := trodAll_cons hA
  obtain ⟨rfl, rfl, rfl⟩ := trodAll_nil r0
  obtain rfl : args = #[v0] := by cases args; simp_all
  obtain ⟨rfl, rfl⟩ := trodVars_none hV
  have k0 := h0
  have lt0 : ∀ x ∈ p0, x.block < W.heap.size := by obtain ⟨m, hm⟩ := k0; exact DataW.trod_lt m _ _ _ hm
  obtain ⟨a0, len0, cap0, rfl⟩ := okWide_slice Try.underlying24 (hval 0 24 v0 rfl rfl)
  obtain ⟨z0, w0⟩ : ∃ zs, IsRow .u8 W a0 len0 cap0 zs := by
    obtain ⟨fuel, hf⟩ := h0
    rcases open_ints Try.underlying24 Try.underlying5 (by kernel_rfl) hf with ⟨hcs, _⟩ | ⟨x, l, c, zs, hcs, _, hl, hm, hz, _, hcell, hwz⟩
    · simp [Value.cells] at hcs
      obtain ⟨rfl, rfl, rfl⟩ := hcs
      exact ⟨[], .inl ⟨rfl, rfl, rfl, rfl⟩⟩
    · simp [Value.cells] at hcs
      obtain ⟨rfl, rfl, rfl⟩ := hcs
      exact ⟨zs, .inr ⟨_, rfl, hl, hm, by simpa using hz, hcell, hwz, isRow_lt hcell⟩⟩
  clear hA0 hval0
  refine (walk W a0 len0 cap0 z0 w0).mono fun e W' ⟨he, bel⟩ => ?_
  subst he
  exact ⟨_, rfl, _, _, _, [], _, [], hW', trodAll_mk1 (shut_bool Try.underlying4 _), (trodAll_cons_mk (Below.trod laidOut (by kernel_rfl) (of_decide_eq_true (by kernel_rfl)) k0 bel lt0) trodAll_mk0), rfl, bel.frame _, fun h => by cases h⟩
end fnChainOf

theorem fnChainOf_holds : Rows.FnChainOfSaid :=
  OpenClaim.holds_of_wide 10 Try.f10 rfl rfl rfl rfl rfl rfl rfl ⟨rfl, rfl, rfl, rfl, rfl⟩ rfl rfl rfl rfl rfl (by kernel_rfl) Try.func10 (by kernel_rfl)
    (of_decide_eq_true (by kernel_rfl)) (by unfold Func.isWrapper; first | (rw [if_pos (by decide +kernel)]; kernel_rfl) | (rw [if_neg (by decide +kernel)]; exact ⟨rfl, rfl⟩))
    (fun os started H enc _ => fnChainOf.lifted os started H enc)
#print axioms fnChainOf_holds

end Go.Proofs.Ytdpekaejklmomaa

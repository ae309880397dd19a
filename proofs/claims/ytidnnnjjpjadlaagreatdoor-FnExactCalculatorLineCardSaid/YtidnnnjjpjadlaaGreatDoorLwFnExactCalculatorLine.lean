/- The program's CalculatorLine returns what the reference's returns, for all arguments. No condition. -/
import Derived.Test.YtidnnnjjpjadlaaGreatDoorMli
import Derived.Test.YtidnnnjjpjadlaaGreatDoorMss
import Derived.Test.YtidnnnjjpjadlaaGreatDoorMcd
namespace Go.Proofs.YtidnnnjjpjadlaaGreatDoor
open Go.ChangeShapes Go.WideShapes Go.ChangeAt Go.RowKit

attribute [local go_sem] alloc_drewN' setCell_drewN'
theorem tocal_any (a b c : Int) (x : Bool) (w : World) : Calls Tryz.prog 18 #[.agg #[.int .i64 a, .int .i64 b, .int .i64 c, .bool x]] w fun e w' => e = .returned (.agg #[.int .i64 a, .int .i64 b, .int .i64 c, .bool x]) ∧ Below w.heap.size w w' := by
  go_enter Tryz.func18, Tryz.ntmps18
  go_wp2_with (first | go_in)
  refine bodyPost_ret (v := .agg #[.int .i64 a, .int .i64 b, .int .i64 c, .bool x]) (by simp [results, Tryz.results18, go_sem]) rfl ?_
  exact ⟨rfl, (by repeat' (first | (with_reducible exact Below.refl _ _) | (with_reducible assumption) | (with_reducible refine below_drewN ?_ _) | (with_reducible refine Below.drew ?_) | (with_reducible refine bl_alloc ?_ _) | (with_reducible refine bl_set ?_ ?_ _) | go_size | omega))⟩
theorem eqf_same (p q : Int) (w : World) : Calls Tryz.prog 48 #[.agg #[.int .i64 p, .int .i64 q], .agg #[.int .i64 p, .int .i64 q]] w fun e w' => e = .returned (.bool true) ∧ Below w.heap.size w w' := by
  go_enter Tryz.func48, Tryz.ntmps48
  go_wp2_with fail
  go_ret
  exact ⟨rfl, (by repeat' (first | (with_reducible exact Below.refl _ _) | (with_reducible assumption) | (with_reducible refine below_drewN ?_ _) | (with_reducible refine Below.drew ?_) | (with_reducible refine bl_alloc ?_ _) | (with_reducible refine bl_set ?_ ?_ _) | go_size | omega))⟩
set_option maxHeartbeats 1000000 in
theorem eqc_same (p q n : Int) (x : Bool) (w : World) : Calls Tryz.prog 20 #[.agg #[.int .i64 p, .int .i64 q, .int .i64 n, .bool x], .agg #[.int .i64 p, .int .i64 q, .int .i64 n, .bool x]] w fun e w' => e = .returned (.bool true) ∧ Below w.heap.size w w' := by
  have HB := Lib.hid (Below.refl w.heap.size w)
  go_enter Tryz.func20, Tryz.ntmps20
  go_wp2_with fail
  refine (eqf_same p q _).mono ?_
  rintro e w1 ⟨rfl, hb⟩
  have hw := bl_behind (w := w) hb (by have hb0 := HB.out; repeat (first | (with_reducible exact hb0) | (with_reducible refine below_drewN ?_ _) | (with_reducible refine Below.drew ?_) | (with_reducible refine bl_alloc ?_ _) | (with_reducible refine bl_set ?_ (by first | (simp; omega) | (have := hb0.size; simp; omega)) _))); have bs := Blk.below (g := w.heap.size) (t := 26) (cs := #[.int .i64 p, .int .i64 q, .int .i64 n, .bool x]) (by repeat (first | (with_reducible exact Bs.out) | (with_reducible exact Blk.new _ _ _) | (with_reducible refine Blk.newAt ?_; simp; done) | (with_reducible refine Blk.drewN ?_ _) | (with_reducible refine Blk.drew ?_) | (with_reducible refine Blk.alloc ?_ _))) hb (by first | (have := Bs.out.lt; first | omega | (simp; omega)) | (simp; done) | (simp; omega)); have Bs := Lib.hid bs; obtain ⟨ks0, ks1, ks2, ks3, fs0, fs1, fs2, fs3, ls⟩ := blk4 bs; clear bs; have bt := Blk.below (g := (w.heap.size + 1)) (t := 26) (cs := #[.int .i64 p, .int .i64 q, .int .i64 n, .bool x]) (by repeat (first | (with_reducible exact Bt.out) | (with_reducible exact Blk.new _ _ _) | (with_reducible refine Blk.newAt ?_; simp; done) | (with_reducible refine Blk.drewN ?_ _) | (with_reducible refine Blk.drew ?_) | (with_reducible refine Blk.alloc ?_ _))) hb (by first | (have := Bt.out.lt; first | omega | (simp; omega)) | (simp; done) | (simp; omega)); have Bt := Lib.hid bt; obtain ⟨kt0, kt1, kt2, kt3, ft0, ft1, ft2, ft3, lt⟩ := blk4 bt; clear bt; have HB := Lib.hid hw; clear hw hb
  go_wp2_with fail
  go_ret
  have hb := HB.out
  exact ⟨rfl, (by repeat' (first | (with_reducible exact Below.refl _ _) | (with_reducible assumption) | (with_reducible refine below_drewN ?_ _) | (with_reducible refine Below.drew ?_) | (with_reducible refine bl_alloc ?_ _) | (with_reducible refine bl_set ?_ ?_ _) | go_size | omega))⟩
set_option maxRecDepth 100000 in
set_option maxHeartbeats 8000000 in
theorem fnExactCalculatorLine.walk (a b c : Int) (x : Bool) (_ : (Lit.int .i64 a).wf = true) (_ : (Lit.int .i64 b).wf = true) (_ : (Lit.int .i64 c).wf = true) (s : ByteArray) (hsz : s.size ≤ maxLen) (w : World) (hL : laidMetH Tryz.prog laidL w) (hsh : w.ShapedOpen Tryz.prog) :
    Calls Tryz.prog 6 #[.agg #[.int .i64 a, .int .i64 b, .int .i64 c, .bool x], .string s] w fun e w' => e = .returned (.bool true) ∧ Below w.heap.size w w' := by
  obtain ⟨m, hm⟩ : ∃ m, w.cell? ⟨0, 0, none⟩ = some (.int .i64 m) := Tryz.laysM145.s1_3 w hsh
  have hm2 : (s.size : Int) ≤ 9223372036854775807 := by unfold maxLen at hsz; omega
  by_cases hbig : (1048576 : Int) < (s.size : Int)
  · go_enter Tryz.func6, Tryz.ntmps6
    go_wp2
    go_ret
    exact ⟨rfl, (by repeat' (first | (with_reducible exact Below.refl _ _) | (with_reducible assumption) | (with_reducible refine below_drewN ?_ _) | (with_reducible refine Below.drew ?_) | (with_reducible refine bl_alloc ?_ _) | (with_reducible refine bl_set ?_ ?_ _) | go_size | omega))⟩
  · have RI := Lib.hid (fun w' hT hm => line_impl a b c x s m w' (by omega) hT hm)
    have RS := Lib.hid (fun w' => line_spec a b c x s w' (by omega))
    have HTB := Lib.hid (ht_of_laid hL)
    have HM := Lib.hid hm
    have HB := Lib.hid (Below.refl w.heap.size w)
    clear hm
    generalize (lnO a b c x s).1.p = P at *
    generalize (lnO a b c x s).1.q = Q at *
    generalize (lnO a b c x s).1.n = N at *
    generalize (lnO a b c x s).1.x = X at *
    generalize (lnO a b c x s).2 = t at *
    go_enter Tryz.func6, Tryz.ntmps6
    go_wp2_with fail
    refine (tocal_any _ _ _ _ _).mono ?_
    rintro e w1 ⟨rfl, hb⟩
    have hw := bl_behind (w := w) hb (by have hb0 := HB.out; repeat (first | (with_reducible exact hb0) | (with_reducible refine below_drewN ?_ _) | (with_reducible refine Below.drew ?_) | (with_reducible refine bl_alloc ?_ _) | (with_reducible refine bl_set ?_ (by first | (simp; omega) | (have := hb0.size; simp; omega)) _))); have ba := Blk.below (g := w.heap.size) (t := 40) (cs := #[.int .i64 a, .int .i64 b, .int .i64 c, .bool x]) (by repeat (first | (with_reducible exact Ba.out) | (with_reducible exact Blk.new _ _ _) | (with_reducible refine Blk.newAt ?_; simp; done) | (with_reducible refine Blk.drewN ?_ _) | (with_reducible refine Blk.drew ?_) | (with_reducible refine Blk.alloc ?_ _))) hb (by first | (have := Ba.out.lt; first | omega | (simp; omega)) | (simp; done) | (simp; omega)); have Ba := Lib.hid ba; obtain ⟨ka0, ka1, ka2, ka3, fa0, fa1, fa2, fa3, la⟩ := blk4 ba; clear ba; have HB := Lib.hid hw; clear hw hb
    go_wp2_with fail
    refine (RS.out _).mono ?_
    rintro e w2 ⟨rfl, hb⟩
    have hw := bl_behind (w := w) hb (by have hb0 := HB.out; repeat (first | (with_reducible exact hb0) | (with_reducible refine below_drewN ?_ _) | (with_reducible refine Below.drew ?_) | (with_reducible refine bl_alloc ?_ _) | (with_reducible refine bl_set ?_ (by first | (simp; omega) | (have := hb0.size; simp; omega)) _))); have ba := Blk.below (g := w.heap.size) (t := 40) (cs := #[.int .i64 a, .int .i64 b, .int .i64 c, .bool x]) (by repeat (first | (with_reducible exact Ba.out) | (with_reducible exact Blk.new _ _ _) | (with_reducible refine Blk.newAt ?_; simp; done) | (with_reducible refine Blk.drewN ?_ _) | (with_reducible refine Blk.drew ?_) | (with_reducible refine Blk.alloc ?_ _))) hb (by first | (have := Ba.out.lt; first | omega | (simp; omega)) | (simp; done) | (simp; omega)); have Ba := Lib.hid ba; obtain ⟨ka0, ka1, ka2, ka3, fa0, fa1, fa2, fa3, la⟩ := blk4 ba; clear ba; have HB := Lib.hid hw; clear hw hb
    go_wp2_with fail
    refine (tocal_any _ _ _ _ _).mono ?_
    rintro e w3 ⟨rfl, hb⟩
    have hw := bl_behind (w := w) hb (by have hb0 := HB.out; repeat (first | (with_reducible exact hb0) | (with_reducible refine below_drewN ?_ _) | (with_reducible refine Below.drew ?_) | (with_reducible refine bl_alloc ?_ _) | (with_reducible refine bl_set ?_ (by first | (simp; omega) | (have := hb0.size; simp; omega)) _))); have ba := Blk.below (g := w.heap.size) (t := 40) (cs := #[.int .i64 a, .int .i64 b, .int .i64 c, .bool x]) (by repeat (first | (with_reducible exact Ba.out) | (with_reducible exact Blk.new _ _ _) | (with_reducible refine Blk.newAt ?_; simp; done) | (with_reducible refine Blk.drewN ?_ _) | (with_reducible refine Blk.drew ?_) | (with_reducible refine Blk.alloc ?_ _))) hb (by first | (have := Ba.out.lt; first | omega | (simp; omega)) | (simp; done) | (simp; omega)); have Ba := Lib.hid ba; obtain ⟨ka0, ka1, ka2, ka3, fa0, fa1, fa2, fa3, la⟩ := blk4 ba; clear ba; have bs := Blk.below (g := w2.heap.size) (t := 26) (cs := #[.int .i64 P, .int .i64 Q, .int .i64 N, .bool X]) (by repeat (first | (with_reducible exact Bs.out) | (with_reducible exact Blk.new _ _ _) | (with_reducible refine Blk.newAt ?_; simp; done) | (with_reducible refine Blk.drewN ?_ _) | (with_reducible refine Blk.drew ?_) | (with_reducible refine Blk.alloc ?_ _))) hb (by first | (have := Bs.out.lt; first | omega | (simp; omega)) | (simp; done) | (simp; omega)); have Bs := Lib.hid bs; obtain ⟨ks0, ks1, ks2, ks3, fs0, fs1, fs2, fs3, ls⟩ := blk4 bs; clear bs; have HB := Lib.hid hw; clear hw hb
    go_wp2_with fail
    refine (RI.out _ (HTB.out.below (by have hb0 := HB.out; repeat (first | (with_reducible exact hb0) | (with_reducible refine below_drewN ?_ _) | (with_reducible refine Below.drew ?_) | (with_reducible refine bl_alloc ?_ _) | (with_reducible refine bl_set ?_ (by first | (simp; omega) | (have := hb0.size; simp; omega)) _)))) (cell0_below HM.out (by have hb0 := HB.out; repeat (first | (with_reducible exact hb0) | (with_reducible refine below_drewN ?_ _) | (with_reducible refine Below.drew ?_) | (with_reducible refine bl_alloc ?_ _) | (with_reducible refine bl_set ?_ (by first | (simp; omega) | (have := hb0.size; simp; omega)) _))))).mono ?_
    rintro e w4 ⟨rfl, hb⟩
    have hw := bl_behind (w := w) hb (by have hb0 := HB.out; repeat (first | (with_reducible exact hb0) | (with_reducible refine below_drewN ?_ _) | (with_reducible refine Below.drew ?_) | (with_reducible refine bl_alloc ?_ _) | (with_reducible refine bl_set ?_ (by first | (simp; omega) | (have := hb0.size; simp; omega)) _))); have bs := Blk.below (g := w2.heap.size) (t := 26) (cs := #[.int .i64 P, .int .i64 Q, .int .i64 N, .bool X]) (by repeat (first | (with_reducible exact Bs.out) | (with_reducible exact Blk.new _ _ _) | (with_reducible refine Blk.newAt ?_; simp; done) | (with_reducible refine Blk.drewN ?_ _) | (with_reducible refine Blk.drew ?_) | (with_reducible refine Blk.alloc ?_ _))) hb (by first | (have := Bs.out.lt; first | omega | (simp; omega)) | (simp; done) | (simp; omega)); have Bs := Lib.hid bs; obtain ⟨ks0, ks1, ks2, ks3, fs0, fs1, fs2, fs3, ls⟩ := blk4 bs; clear bs; have HB := Lib.hid hw; clear hw hb
    go_wp2_with fail
    refine (eqc_same _ _ _ _ _).mono ?_
    rintro e w5 ⟨rfl, hb⟩
    have hw := bl_behind (w := w) hb (by have hb0 := HB.out; repeat (first | (with_reducible exact hb0) | (with_reducible refine below_drewN ?_ _) | (with_reducible refine Below.drew ?_) | (with_reducible refine bl_alloc ?_ _) | (with_reducible refine bl_set ?_ (by first | (simp; omega) | (have := hb0.size; simp; omega)) _))); have HB := Lib.hid hw; clear hw hb
    go_wp2_with fail
    go_ret
    have hb := HB.out
    exact ⟨rfl, (by repeat' (first | (with_reducible exact Below.refl _ _) | (with_reducible assumption) | (with_reducible refine below_drewN ?_ _) | (with_reducible refine Below.drew ?_) | (with_reducible refine bl_alloc ?_ _) | (with_reducible refine bl_set ?_ ?_ _) | go_size | omega))⟩

/-! THE ROW's STEP of FnExactCalculatorLine: from the contract of the law's walk to the given statement. -/
namespace fnExactCalculatorLine
set_option maxRecDepth 100000 in
theorem lifted (os : Os) (started : os.Started) (H : Type) (enc : TypeId × Value → H) :
    ReturnsInHanded {} Tryz.checked os 6 .any (fun w args => (Rows.fnExactCalculatorLineSpec.pre enc Tryz.prog Tryz.f6 [] false w args ∧ laidMetH Tryz.prog laidL w) ∧ sizedMet enc Tryz.prog Tryz.f6 (OpenSpec.ofChange Rows.fnExactCalculatorLineSpec) false w args) (Rows.fnExactCalculatorLineSpec.post enc Tryz.prog Tryz.f6 false true false false) := by
  refine card_of_shaped (C := Tryz.checked) (X := fun w _ => laidMetH Tryz.prog laidL w) (fun _ _ _ hh h => h.of_heap hh) own started (by kernel_rfl) Tryz.func6
    (ChangeSpec.witness_shaped (enc := enc) (C := Tryz.checked) (os := os) (X := fun w _ => laidMetH Tryz.prog laidL w) false (World.doorLaid Tryz.prog 400 os) #[.agg #[.int .i64 0, .int .i64 0, .int .i64 0, .bool false], .string ByteArray.empty] 8 rfl (World.shaped_of_RefB (by kernel_rfl) (by kernel_rfl)) (by kernel_rfl) (by kernel_rfl) (by kernel_rfl) (door_met os _)) ?_
  intro W base args ds gs before hval0 hW _ _ hL _
  have hval : ∀ (j : Nat) t v, Tryz.f6.params[j]? = some t → args[j]? = some v → Value.okWide Tryz.prog W .any base t v := hval0
  have hW' := hW
  obtain ⟨p, q, hA0, hV, rfl, hfz, hnd⟩ := hW
  have hA : DataW.TrodAll enc Tryz.prog W 0 (fun _ => true) true Tryz.f6.params.toList args.toList ds p := hA0
  rw [Tryz.params6] at hA hval
  obtain ⟨v0, vs0, d0, ds0, p0, q0, hargs, rfl, rfl, h0, r0⟩ := trodAll_cons hA
  obtain ⟨v1, vs1, d1, ds1, p1, q1, rfl, rfl, rfl, h1, r1⟩ := trodAll_cons r0
  obtain ⟨rfl, rfl, rfl⟩ := trodAll_nil r1
  obtain rfl : args = #[v0, v1] := by cases args; simp_all
  obtain ⟨rfl, rfl⟩ := trodVars_none hV
  have k0 := h0
  have lt0 : ∀ x ∈ p0, x.block < W.heap.size := by obtain ⟨m, hm⟩ := k0; exact DataW.trod_lt m _ _ _ hm
  obtain ⟨cs0, rfl, hsz0⟩ := okWide_struct Tryz.underlying40 (hval 0 40 v0 rfl rfl)
  obtain ⟨c0_0, c0_1, c0_2, c0_3, rfl⟩ := Go.Joins.array4 (hsz0.trans (by kernel_rfl))
  obtain ⟨fu0, hf0⟩ := h0
  obtain ⟨xs0, n0, -, -, -, hxl0, hx0⟩ := DataW.trod_struct Tryz.underlying40 hf0
  obtain ⟨z0, z1, z2, rfl⟩ : ∃ z0 z1 z2, xs0 = [z0, z1, z2] := by match xs0, hxl0 with | [z0, z1, z2], _ => exact ⟨z0, z1, z2, rfl⟩
  have e2 : Tryz.prog.cellsOf 38 = 2 := by kernel_rfl
  have e1 : Tryz.prog.cellsOf 3 = 1 := by kernel_rfl
  have e0 : Tryz.prog.cellsOf 4 = 1 := by kernel_rfl
  have g0 := hx0 0 _ rfl
  have g1 := hx0 1 _ rfl
  have g2 := hx0 2 _ rfl
  simp [e2, Value.cells] at g0
  simp [e1, Value.cells] at g1
  simp [e0, Value.cells] at g2
  obtain ⟨ys, m, -, -, -, hyl, hy⟩ := DataW.trod_struct Tryz.underlying38 g0
  obtain ⟨y0, y1, rfl⟩ : ∃ y0 y1, ys = [y0, y1] := by match ys, hyl with | [y0, y1], _ => exact ⟨y0, y1, rfl⟩
  have g3 := hy 0 _ rfl
  have g4 := hy 1 _ rfl
  simp [e1] at g3
  simp [e1] at g4
  obtain ⟨a0, ea, -, wa⟩ := DataW.trod_int Tryz.underlying3 g3
  obtain ⟨b0, eb, -, wb⟩ := DataW.trod_int Tryz.underlying3 g4
  obtain ⟨s0, es, -, ws⟩ := DataW.trod_int Tryz.underlying3 g1
  obtain ⟨x0, ex, -⟩ := DataW.trod_bool Tryz.underlying4 g2
  simp only [List.cons.injEq, and_true] at ea eb es ex
  subst ea; subst eb; subst es; subst ex
  have k1 := h1
  have lt1 : ∀ x ∈ p1, x.block < W.heap.size := by obtain ⟨m, hm⟩ := k1; exact DataW.trod_lt m _ _ _ hm
  obtain ⟨s1, rfl, -, -, w1⟩ := Go.ChangeMaps.open_string Tryz.underlying9 (hval 1 9 v1 rfl rfl) h1
  clear hA0 hval0
  refine (walk a0 b0 s0 x0 wa wb ws s1 w1 W hL.1 hL.2).mono fun e W' ⟨he, bel⟩ => ?_
  subst he
  exact ⟨_, rfl, _, _, _, [], _, [], hW', trodAll_mk1 (shut_bool Tryz.underlying4 _), (trodAll_cons_mk (Below.trod laidOut (by kernel_rfl) (of_decide_eq_true (by kernel_rfl)) k0 bel lt0) (trodAll_cons_mk (Below.trod laidOut (by kernel_rfl) (of_decide_eq_true (by kernel_rfl)) k1 bel lt1) trodAll_mk0)), rfl, bel.frame _, fun h => by cases h⟩
end fnExactCalculatorLine

theorem fnExactCalculatorLine_row : Rows.FnExactCalculatorLineSaid :=
  OpenClaim.holds_of_wide 6 Tryz.f6 rfl rfl rfl rfl rfl rfl rfl ⟨rfl, rfl, rfl, rfl, rfl⟩ rfl rfl rfl rfl rfl (by kernel_rfl) Tryz.func6 (by kernel_rfl)
    (of_decide_eq_true (by kernel_rfl)) (by unfold Func.isWrapper; first | (rw [if_pos (by decide +kernel)]; kernel_rfl) | (rw [if_neg (by decide +kernel)]; exact ⟨rfl, rfl⟩))
    (fun os started H enc _ => fnExactCalculatorLine.lifted os started H enc)
theorem fnExactCalculatorLine_holds : Rows.FnExactCalculatorLineCardSaid :=
  Claim7.holds_tied_plain_at .later [] [.data, .data, .data] true _ false
    fnExactCalculatorLine_row (fun _ h => by cases h) (by kernel_rfl) (fun _ h => by cases h) fnExactCalculatorLine_row_tie rfl ⟨rfl, rfl⟩ (by kernel_rfl) rfl
    (fun f fn hf hfn => by
      obtain rfl : f = 6 := Option.some.inj ((show Tryz.prog.funcNamed "loop.example/fixedmath/laws.FnExactCalculatorLine" = some 6 by kernel_rfl).symm.trans hf) |>.symm
      obtain rfl : fn = Tryz.f6 := (Option.some.inj (Tryz.func6.symm.trans hfn)).symm
      exact ⟨by kernel_rfl, fun j t ht => by
        rw [Tryz.params6] at ht
        have hm : t ∈ [40, 9] := by simpa using Array.mem_of_getElem? ht
        have hall : ([40, 9].all fun u => !Tryz.prog.wantsStandIn u) = true := by kernel_rfl
        exact (show Tryz.prog.wantsStandIn t = false by simpa using List.all_eq_true.1 hall t hm)⟩)
    (by kernel_rfl)
#print axioms fnExactCalculatorLine_holds

end Go.Proofs.YtidnnnjjpjadlaaGreatDoor

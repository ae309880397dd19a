/- Accepted texts are canonical: FormatText of the format is the text; with a space behind it is refused. No condition. -/
import Derived.Test.YtcgbbbcanmkcbaaDoorDrawRf
import Derived.Test.YtcgbbbcanmkcbaaDoorRfS
import Derived.Test.YtcgbbbcanmkcbaaDoorCardS
import Derived.Test.YtcgbbbcanmkcbaaDoorAlive
namespace Go.Proofs.YtcgbbbcanmkcbaaDoor
open Go.ChangeShapes Go.WideShapes Go.ChangeAt Go.RowKit

attribute [local go_sem] alloc_drewN' setCell_drewN'
theorem fText_sp {p q p' q' : Int} (h' : fmtB p' q' = true) : ¬ sOf (fText p' q') = sOf (fText p q) ++ ⟨#[32]⟩ := by
  intro e
  obtain ⟨h1, h2, h3, h4⟩ := fmtB_mk h'
  have e1 : (⟨#[32]⟩ : ByteArray) = sOf [32] := rfl
  rw [e1, sOf_app] at e
  have e2 := sOf_inj e
  have hm : (32 : UInt8) ∈ fText p' q' := by rw [e2]; simp
  unfold fText at hm
  rw [if_pos h'] at hm
  simp only [List.mem_append, List.mem_singleton] at hm
  rcases hm with (hm | hm) | hm
  · exact dig_no (dec_digs (n := p') (by omega)) (by decide) hm
  · exact absurd hm (by decide)
  · exact dig_no (dec_digs (n := q') (by omega)) (by decide) hm
set_option maxHeartbeats 4000000 in
theorem fnReadFormat.walk (w : World) (a : Option Addr) (len cap : Nat) (zs : List Int) (hrow : IsRow .u8 w a len cap zs) (_ : laidMetH Tryd.prog laidL w) (hsh : w.ShapedOpen Tryd.prog) :
    Calls Tryd.prog 8 #[.slice a len cap] w fun e w' => e = .returned (.bool true) ∧ Below w.heap.size w w' := by
  obtain ⟨hl1, hl2, -⟩ := code_of_row hrow
  have hm : (len : Int) ≤ 9223372036854775807 := by unfold maxLen at hl2; omega
  by_cases hbig : (1048576 : Int) < (len : Int)
  · clear hrow hl1 hl2
    go_enter Tryd.func8, Tryd.ntmps8
    go_wp2
    go_ret
    exact ⟨rfl, Below.refl _ _⟩
  · obtain ⟨mx, hmx⟩ : ∃ m, w.cell? ⟨0, 0, none⟩ = some (.int .i64 m) := Tryd.laysM145.s1_3 w hsh
    have HM := Lib.hid hmx
    have HB := Lib.hid (Below.refl w.heap.size w)
    have HROW := Lib.hid hrow
    clear hl1 hl2 hmx hrow
    go_enter Tryd.func8, Tryd.ntmps8
    go_wp2_with fail
    refine (drawreadformat_any HROW.out).mono ?_
    rintro e w1 ⟨s, hz, rfl, hb⟩
    (repeat (first | (replace hb := undrewN hb) | (replace hb := undrew hb))); (repeat (first | (replace hb := undrewN hb) | (replace hb := undrew hb) | (replace hb := unalloc hb))); have HB := Lib.hid (HB.out.trans (hb.mono HB.out.size)); clear hb
    have RI := Lib.hid (fun w' hm => rf_impl s mx w' (by omega) hm)
    have RS := Lib.hid (fun w' => rf_spec s w')
    by_cases hg : rfGood s
    · obtain ⟨p, q, hv0, rfl⟩ := rfGood_mk hg
      obtain ⟨g, e1, e2⟩ := fText_good hv0 rfl
      obtain ⟨y1, y2, y3⟩ := rf_yes g
      rw [y1, y2, y3, e1, e2] at RI RS
      have hz2 : (sOf (fText p q) ++ (⟨#[32]⟩ : ByteArray)).size ≤ 101 := by rw [ByteArray.size_append]; have : (⟨#[32]⟩ : ByteArray).size = 1 := rfl; omega
      have RM := Lib.hid (fun w' hm => rf_impl (sOf (fText p q) ++ ⟨#[32]⟩) mx w' (by omega) hm)
      obtain ⟨n1, n2, n3⟩ := rf_no (s := sOf (fText p q) ++ ⟨#[32]⟩) (fun g => by obtain ⟨p', q', k1, k2⟩ := rfGood_mk g; exact fText_sp k1 k2)
      rw [n1, n2, n3] at RM
      have FI := Lib.hid (fun w' => ft_impl p q w')
      have hv := Lib.hid hv0
      clear hg hv0 g e1 e2 y1 y2 y3 n1 n2 n3
      generalize sOf (fText p q) = s at *
      go_wp2_with fail
      refine (RI.out _ (cell0_below HM.out (by have hb0 := HB.out; repeat (first | (with_reducible exact hb0) | (with_reducible refine below_drewN ?_ _) | (with_reducible refine Below.drew ?_) | (with_reducible refine bl_alloc ?_ _))))).mono ?_
      rintro e w2 ⟨rfl, hb⟩
      (repeat (first | (replace hb := undrewN hb) | (replace hb := undrew hb))); (repeat (first | (replace hb := undrewN hb) | (replace hb := undrew hb) | (replace hb := unalloc hb))); have HB := Lib.hid (HB.out.trans (hb.mono HB.out.size)); clear hb
      go_wp2_with fail
      refine (RS.out _).mono ?_
      rintro e w3 ⟨rfl, hb⟩
      have hw := bl_behind (w := w) hb (by have hb0 := HB.out; repeat (first | (with_reducible exact hb0) | (with_reducible refine below_drewN ?_ _) | (with_reducible refine Below.drew ?_) | (with_reducible refine bl_alloc ?_ _))); have bx := Blk.below (g := w2.heap.size) (t := 25) (cs := #[.int .i64 p, .int .i64 q]) (by repeat (first | (with_reducible exact Bx.out) | (with_reducible exact Blk.new _ _ _) | (with_reducible refine Blk.drewN ?_ _) | (with_reducible refine Blk.drew ?_) | (with_reducible refine Blk.alloc ?_ _))) hb (by first | (have := Bx.out.lt; first | omega | (simp; omega)) | (simp; done) | (simp; omega)); have Bx := Lib.hid bx; obtain ⟨kx0, kx1, fx0, fx1, lx⟩ := blk2 bx; clear bx; have HB := Lib.hid hw; clear hw hb
      go_wp2_with fail
      refine (RM.out _ (cell0_below HM.out (by have hb0 := HB.out; repeat (first | (with_reducible exact hb0) | (with_reducible refine below_drewN ?_ _) | (with_reducible refine Below.drew ?_) | (with_reducible refine bl_alloc ?_ _))))).mono ?_
      rintro e w4 ⟨rfl, hb⟩
      have hw := bl_behind (w := w) hb (by have hb0 := HB.out; repeat (first | (with_reducible exact hb0) | (with_reducible refine below_drewN ?_ _) | (with_reducible refine Below.drew ?_) | (with_reducible refine bl_alloc ?_ _))); have bx := Blk.below (g := w2.heap.size) (t := 25) (cs := #[.int .i64 p, .int .i64 q]) (by repeat (first | (with_reducible exact Bx.out) | (with_reducible exact Blk.new _ _ _) | (with_reducible refine Blk.drewN ?_ _) | (with_reducible refine Blk.drew ?_) | (with_reducible refine Blk.alloc ?_ _))) hb (by first | (have := Bx.out.lt; first | omega | (simp; omega)) | (simp; done) | (simp; omega)); have Bx := Lib.hid bx; obtain ⟨kx0, kx1, fx0, fx1, lx⟩ := blk2 bx; clear bx; have HB := Lib.hid hw; clear hw hb
      go_wp2_with fail
      refine (FI.out _).mono ?_
      rintro e w5 ⟨rfl, hb⟩
      have hw := bl_behind (w := w) hb (by have hb0 := HB.out; repeat (first | (with_reducible exact hb0) | (with_reducible refine below_drewN ?_ _) | (with_reducible refine Below.drew ?_) | (with_reducible refine bl_alloc ?_ _))); have bx := Blk.below (g := w2.heap.size) (t := 25) (cs := #[.int .i64 p, .int .i64 q]) (by repeat (first | (with_reducible exact Bx.out) | (with_reducible exact Blk.new _ _ _) | (with_reducible refine Blk.drewN ?_ _) | (with_reducible refine Blk.drew ?_) | (with_reducible refine Blk.alloc ?_ _))) hb (by first | (have := Bx.out.lt; first | omega | (simp; omega)) | (simp; done) | (simp; omega)); have Bx := Lib.hid bx; obtain ⟨kx0, kx1, fx0, fx1, lx⟩ := blk2 bx; clear bx; have HB := Lib.hid hw; clear hw hb
      go_wp2_with (first | (go_at_call 27; refine (fmvb_impl hv.out _).mono ?_; rintro e w' ⟨rfl, mm, rfl⟩))
      go_ret
      have hb := HB.out
      exact ⟨rfl, (by repeat' (first | (with_reducible exact Below.refl _ _) | (with_reducible assumption) | (with_reducible refine below_drewN ?_ _) | (with_reducible refine Below.drew ?_) | (with_reducible refine bl_alloc ?_ _) | (with_reducible refine bl_set ?_ ?_ _) | go_size | omega))⟩
    · obtain ⟨n1, n2, n3⟩ := rf_no hg
      rw [n1, n2, n3] at RI RS
      clear hg n1 n2 n3
      go_wp2_with fail
      refine (RI.out _ (cell0_below HM.out (by have hb0 := HB.out; repeat (first | (with_reducible exact hb0) | (with_reducible refine below_drewN ?_ _) | (with_reducible refine Below.drew ?_) | (with_reducible refine bl_alloc ?_ _))))).mono ?_
      rintro e w2 ⟨rfl, hb⟩
      (repeat (first | (replace hb := undrewN hb) | (replace hb := undrew hb))); (repeat (first | (replace hb := undrewN hb) | (replace hb := undrew hb) | (replace hb := unalloc hb))); have HB := Lib.hid (HB.out.trans (hb.mono HB.out.size)); clear hb
      go_wp2_with fail
      refine (RS.out _).mono ?_
      rintro e w3 ⟨rfl, hb⟩
      have hw := bl_behind (w := w) hb (by have hb0 := HB.out; repeat (first | (with_reducible exact hb0) | (with_reducible refine below_drewN ?_ _) | (with_reducible refine Below.drew ?_) | (with_reducible refine bl_alloc ?_ _))); have bx := Blk.below (g := w2.heap.size) (t := 25) (cs := #[.int .i64 0, .int .i64 0]) (by repeat (first | (with_reducible exact Bx.out) | (with_reducible exact Blk.new _ _ _) | (with_reducible refine Blk.drewN ?_ _) | (with_reducible refine Blk.drew ?_) | (with_reducible refine Blk.alloc ?_ _))) hb (by first | (have := Bx.out.lt; first | omega | (simp; omega)) | (simp; done) | (simp; omega)); have Bx := Lib.hid bx; obtain ⟨kx0, kx1, fx0, fx1, lx⟩ := blk2 bx; clear bx; have HB := Lib.hid hw; clear hw hb
      go_wp2_with (first | (go_at_call 17; refine (alive_any _).mono ?_; rintro e w' ⟨rfl, rfl⟩))
      go_ret
      have hb := HB.out
      exact ⟨rfl, (by repeat' (first | (with_reducible exact Below.refl _ _) | (with_reducible assumption) | (with_reducible refine below_drewN ?_ _) | (with_reducible refine Below.drew ?_) | (with_reducible refine bl_alloc ?_ _) | (with_reducible refine bl_set ?_ ?_ _) | go_size | omega))⟩

/-! THE ROW's STEP of FnReadFormat: from the contract of the law's walk to the given statement. -/
namespace fnReadFormat
set_option maxRecDepth 100000 in
theorem lifted (os : Os) (started : os.Started) (H : Type) (enc : TypeId × Value → H) :
    ReturnsInHanded {} Tryd.checked os 8 .any (fun w args => (Rows.fnReadFormatSpec.pre enc Tryd.prog Tryd.f8 [] false w args ∧ laidMetH Tryd.prog laidL w) ∧ sizedMet enc Tryd.prog Tryd.f8 (OpenSpec.ofChange Rows.fnReadFormatSpec) false w args) (Rows.fnReadFormatSpec.post enc Tryd.prog Tryd.f8 false true false false) := by
  refine card_of_shaped (C := Tryd.checked) (X := fun w _ => laidMetH Tryd.prog laidL w) (fun _ _ _ hh h => h.of_heap hh) own started (by kernel_rfl) Tryd.func8
    (ChangeSpec.witness_shaped (enc := enc) (C := Tryd.checked) (os := os) (X := fun w _ => laidMetH Tryd.prog laidL w) false (World.doorLaid Tryd.prog 400 os) #[.slice none 0 0] 8 rfl (World.shaped_of_RefB (by kernel_rfl) (by kernel_rfl)) (by kernel_rfl) (by kernel_rfl) (by kernel_rfl) (door_met os _)) ?_
  intro W base args ds gs before hval0 hW _ _ hL _
  have hval : ∀ (j : Nat) t v, Tryd.f8.params[j]? = some t → args[j]? = some v → Value.okWide Tryd.prog W .any base t v := hval0
  have hW' := hW
  obtain ⟨p, q, hA0, hV, rfl, hfz, hnd⟩ := hW
  have hA : DataW.TrodAll enc Tryd.prog W 0 (fun _ => true) true Tryd.f8.params.toList args.toList ds p := hA0
  rw [Tryd.params8] at hA hval
  obtain ⟨v0, vs0, d0, ds0, p0, q0, hargs, rfl, rfl, h0, r0⟩ := trodAll_cons hA
  obtain ⟨rfl, rfl, rfl⟩ := trodAll_nil r0
  obtain rfl : args = #[v0] := by cases args; simp_all
  obtain ⟨rfl, rfl⟩ := trodVars_none hV
  have k0 := h0
  have lt0 : ∀ x ∈ p0, x.block < W.heap.size := by obtain ⟨m, hm⟩ := k0; exact DataW.trod_lt m _ _ _ hm
  obtain ⟨a0, len0, cap0, rfl⟩ := okWide_slice Tryd.underlying28 (hval 0 28 v0 rfl rfl)
  obtain ⟨z0, w0⟩ : ∃ zs, IsRow .u8 W a0 len0 cap0 zs := by
    obtain ⟨fuel, hf⟩ := h0
    rcases open_ints Tryd.underlying28 Tryd.underlying5 (by kernel_rfl) hf with ⟨hcs, _⟩ | ⟨x, l, c, zs, hcs, _, hl, hm, hz, _, hcell, hwz⟩
    · simp [Value.cells] at hcs
      obtain ⟨rfl, rfl, rfl⟩ := hcs
      exact ⟨[], .inl ⟨rfl, rfl, rfl, rfl⟩⟩
    · simp [Value.cells] at hcs
      obtain ⟨rfl, rfl, rfl⟩ := hcs
      exact ⟨zs, .inr ⟨_, rfl, hl, hm, by simpa using hz, hcell, hwz, isRow_lt hcell⟩⟩
  clear hA0 hval0
  refine (walk W a0 len0 cap0 z0 w0 hL.1 hL.2).mono fun e W' ⟨he, bel⟩ => ?_
  subst he
  exact ⟨_, rfl, _, _, _, [], _, [], hW', trodAll_mk1 (shut_bool Tryd.underlying4 _), (trodAll_cons_mk (Below.trod laidOut (by kernel_rfl) (of_decide_eq_true (by kernel_rfl)) k0 bel lt0) trodAll_mk0), rfl, bel.frame _, fun h => by cases h⟩
end fnReadFormat

theorem fnReadFormat_row : Rows.FnReadFormatSaid :=
  OpenClaim.holds_of_wide 8 Tryd.f8 rfl rfl rfl rfl rfl rfl rfl ⟨rfl, rfl, rfl, rfl, rfl⟩ rfl rfl rfl rfl rfl (by kernel_rfl) Tryd.func8 (by kernel_rfl)
    (of_decide_eq_true (by kernel_rfl)) (by unfold Func.isWrapper; first | (rw [if_pos (by decide +kernel)]; kernel_rfl) | (rw [if_neg (by decide +kernel)]; exact ⟨rfl, rfl⟩))
    (fun os started H enc _ => fnReadFormat.lifted os started H enc)
theorem fnReadFormat_holds : Rows.FnReadFormatCardSaid :=
  Claim7.holds_tied_plain_at .later [] [.data, .data, .data] true _ false
    fnReadFormat_row (fun _ h => by cases h) (by kernel_rfl) (fun _ h => by cases h) fnReadFormat_row_tie rfl ⟨rfl, rfl⟩ (by kernel_rfl) rfl
    (fun f fn hf hfn => by
      obtain rfl : f = 8 := Option.some.inj ((show Tryd.prog.funcNamed "loop.example/fixedmath/laws.FnReadFormat" = some 8 by kernel_rfl).symm.trans hf) |>.symm
      obtain rfl : fn = Tryd.f8 := (Option.some.inj (Tryd.func8.symm.trans hfn)).symm
      exact ⟨by kernel_rfl, fun j t ht => by
        rw [Tryd.params8] at ht
        have hm : t ∈ [28] := by simpa using Array.mem_of_getElem? ht
        have hall : ([28].all fun u => !Tryd.prog.wantsStandIn u) = true := by kernel_rfl
        exact (show Tryd.prog.wantsStandIn t = false by simpa using List.all_eq_true.1 hall t hm)⟩)
    (by kernel_rfl)
#print axioms fnReadFormat_holds

end Go.Proofs.YtcgbbbcanmkcbaaDoor

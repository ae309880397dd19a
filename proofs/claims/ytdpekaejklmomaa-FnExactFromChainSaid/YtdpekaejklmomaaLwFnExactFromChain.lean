/- The program's FromChain returns what the reference's returns, for all arguments. No condition. -/
import Derived.Test.YtdpekaejklmomaaFci
import Derived.Test.YtdpekaejklmomaaToi
namespace Go.Proofs.Ytdpekaejklmomaa
open Go.ChangeShapes Go.WideShapes Go.ChangeAt Go.RowKit

attribute [local go_sem] alloc_drewN' setCell_drewN'
theorem CodeI.below' {w w' : World} {a : Option Addr} {len : Nat} {zs : List Int} (h : CodeI w w.heap.size a len zs) (hb : Below w.heap.size w w') : CodeI w' w'.heap.size a len zs := by
  have hs := hb.size
  rcases h.below hb with h | ⟨b, off, e, h1, h2⟩
  · exact .inl h
  · exact .inr ⟨b, off, e, by omega, h2⟩
set_option maxHeartbeats 4000000 in
theorem fnExactFromChain.walk (w : World) (a : Option Addr) (len cap : Nat) (zs : List Int) (hrow : IsRow .i64 w a len cap zs) :
    Calls Try.prog 13 #[.slice a len cap] w fun e w' => e = .returned (.bool true) ∧ Below w.heap.size w w' := by
  obtain ⟨hcap, hcm, hzl, hc⟩ := codeI_of_row hrow
  have hmm : (len : Int) ≤ 9223372036854775807 := by unfold maxLen at hcm; omega
  clear hrow
  by_cases hbig : (1048576 : Int) < (len : Int)
  · clear hc
    go_enter Try.func13, Try.ntmps13
    go_wp2
    go_ret
    exact ⟨rfl, Below.refl _ _⟩
  · have hl1 : len ≤ zs.length := by omega
    have HC := Lib.hid hc
    have HB := Lib.hid (Below.refl w.heap.size w)
    clear hc hcap hcm hzl
    have hFS : Hid (∀ w' base v, Row w' base v (zs.take len) → Calls Try.prog 42 #[v] w' fun e w'' => e = .returned (.tuple #[.agg #[.int .i64 (fcA (zs.take len)), .int .i64 (fcB (zs.take len))], .bool (fcOk (zs.take len))]) ∧ Below w'.heap.size w' w'') := Lib.hid (fun w' base v h => fch_spec h)
    have FI : Hid (∀ w' base v, Row w' base v (zs.take len) → Calls Try.prog 35 #[v] w' fun e w'' => e = .returned (.tuple #[.agg #[.int .i64 (fcA (zs.take len)), .int .i64 (fcB (zs.take len))], .bool (fcOk (zs.take len))]) ∧ Below w'.heap.size w' w'') := Lib.hid (fun w' base v h => fch_impl h)
    generalize fcA (zs.take len) = A at *
    generalize fcB (zs.take len) = B at *
    generalize fcOk (zs.take len) = o at *
    cases o
    all_goals
      go_enter Try.func13, Try.ntmps13
      go_wp2_with fail
      refine (toints_any (HC.out.below' (by have hb0 := HB.out; repeat (first | (with_reducible exact hb0) | (with_reducible refine below_drewN ?_ _) | (with_reducible refine Below.drew ?_) | (with_reducible refine bl_alloc ?_ _)))) hl1 (by omega)).mono ?_
      rintro e w1 ⟨v1, rfl, r1, hb⟩
      have hw1 := hb.size
      have hw := bl_behind (w := w) hb (by have hb0 := HB.out; repeat (first | (with_reducible exact hb0) | (with_reducible refine below_drewN ?_ _) | (with_reducible refine Below.drew ?_) | (with_reducible refine bl_alloc ?_ _))); have HB := Lib.hid hw; clear hw hb
      have R1 := Lib.hid r1
      clear r1
      go_wp2_with fail
      refine (hFS.out _ _ _ R1.out).mono ?_
      rintro e w2 ⟨rfl, hb⟩
      have hw2 := hb.size
      have hw := bl_behind (w := w) hb (by have hb0 := HB.out; repeat (first | (with_reducible exact hb0) | (with_reducible refine below_drewN ?_ _) | (with_reducible refine Below.drew ?_) | (with_reducible refine bl_alloc ?_ _))); have HB := Lib.hid hw; clear hw hb
      have Bx := Lib.hid (Blk.new w2 41 #[.int .i64 A, .int .i64 B])
      have HB := Lib.hid (bl_alloc HB.out (.cells #[.int .i64 A, .int .i64 B] 41))
      clear R1
      go_wp2_with fail
      refine (toints_any (HC.out.below' (by have hb0 := HB.out; repeat (first | (with_reducible exact hb0) | (with_reducible refine below_drewN ?_ _) | (with_reducible refine Below.drew ?_) | (with_reducible refine bl_alloc ?_ _)))) hl1 (by omega)).mono ?_
      rintro e w3 ⟨v2, rfl, r2, hb⟩
      have hw3 := hb.size
      have hw := bl_behind (w := w) hb (by have hb0 := HB.out; repeat (first | (with_reducible exact hb0) | (with_reducible refine below_drewN ?_ _) | (with_reducible refine Below.drew ?_) | (with_reducible refine bl_alloc ?_ _))); have bx := Blk.below (g := w2.heap.size) (t := 41) (cs := #[.int .i64 A, .int .i64 B]) (by repeat (first | (with_reducible exact Bx.out) | (with_reducible exact Blk.new _ _ _) | (with_reducible refine Blk.drewN ?_ _) | (with_reducible refine Blk.drew ?_) | (with_reducible refine Blk.alloc ?_ _))) hb (by first | (have := Bx.out.lt; first | omega | (simp; omega)) | (simp; done) | (simp; omega)); have Bx := Lib.hid bx; obtain ⟨kx0, kx1, fx0, fx1, lx⟩ := blk2 bx; clear bx; have HB := Lib.hid hw; clear hw hb
      have R2 := Lib.hid (r2.lower (b := w.heap.size) (by simp; omega))
      clear r2
      go_wp2_with fail
      refine (FI.out _ _ _ R2.out).mono ?_
      rintro e w4 ⟨rfl, hb⟩
      have hw4 := hb.size
      have hw := bl_behind (w := w) hb (by have hb0 := HB.out; repeat (first | (with_reducible exact hb0) | (with_reducible refine below_drewN ?_ _) | (with_reducible refine Below.drew ?_) | (with_reducible refine bl_alloc ?_ _))); have bx := Blk.below (g := w2.heap.size) (t := 41) (cs := #[.int .i64 A, .int .i64 B]) (by repeat (first | (with_reducible exact Bx.out) | (with_reducible exact Blk.new _ _ _) | (with_reducible refine Blk.drewN ?_ _) | (with_reducible refine Blk.drew ?_) | (with_reducible refine Blk.alloc ?_ _))) hb (by first | (have := Bx.out.lt; first | omega | (simp; omega)) | (simp; done) | (simp; omega)); have Bx := Lib.hid bx; obtain ⟨kx0, kx1, fx0, fx1, lx⟩ := blk2 bx; clear bx; have r2 := Row.below (base := w.heap.size) (v := v2) (xs := zs.take len) (by repeat (first | (with_reducible exact R2.out) | (with_reducible refine Row.drewN ?_ _) | (with_reducible refine Row.alloc ?_ _))) hb; have R2 := Lib.hid r2; clear r2; have HB := Lib.hid hw; clear hw hb
      go_wp2_with (first | (go_at_call 44; go_in))
      refine (toints_any (HC.out.below' (by have hb0 := HB.out; repeat (first | (with_reducible exact hb0) | (with_reducible refine below_drewN ?_ _) | (with_reducible refine Below.drew ?_) | (with_reducible refine bl_alloc ?_ _)))) hl1 (by omega)).mono ?_
      rintro e w5 ⟨v3, rfl, r3, hb⟩
      have hw := bl_behind (w := w) hb (by have hb0 := HB.out; repeat (first | (with_reducible exact hb0) | (with_reducible refine below_drewN ?_ _) | (with_reducible refine Below.drew ?_) | (with_reducible refine bl_alloc ?_ _))); have r2 := Row.below (base := w.heap.size) (v := v2) (xs := zs.take len) (by repeat (first | (with_reducible exact R2.out) | (with_reducible refine Row.drewN ?_ _) | (with_reducible refine Row.alloc ?_ _))) hb; have R2 := Lib.hid r2; clear r2; have HB := Lib.hid hw; clear hw hb
      go_wp2_with fail
      refine (eqints_any R2.out r3).mono ?_
      rintro e w6 ⟨rfl, qn, rfl⟩
      go_wp2_with fail
      go_ret
      have hb := HB.out
      exact ⟨rfl, (by repeat' (first | (with_reducible exact Below.refl _ _) | (with_reducible assumption) | (with_reducible refine below_drewN ?_ _) | (with_reducible refine Below.drew ?_) | (with_reducible refine bl_alloc ?_ _) | (with_reducible refine bl_set ?_ ?_ _) | go_size | omega))⟩

/-! THE ROW's STEP of FnExactFromChain: from the contract of the law's walk to the given statement. -/
namespace fnExactFromChain
set_option maxRecDepth 100000 in
theorem lifted (os : Os) (started : os.Started) (H : Type) (enc : TypeId × Value → H) :
    ReturnsInHanded {} Try.checked os 13 .any (Rows.fnExactFromChainSpec.pre6 enc Try.prog Try.f13 Rows.fnExactFromChainRow.domain false) (Rows.fnExactFromChainSpec.post enc Try.prog Try.f13 false true false false) := by
  refine returnsInHanded_of_change (C := Try.checked) own started (by kernel_rfl) Try.func13
    (ChangeSpec.witness6 (enc := enc) (C := Try.checked) false ⟨#[], #[.slice none 0 0], []⟩ 8 (by kernel_rfl) (by kernel_rfl) (by kernel_rfl) (by kernel_rfl)) ?_
  intro W base args ds gs before hval0 hW hcnd _
  have hval : ∀ (j : Nat) t v, Try.f13.params[j]? = some t → args[j]? = some v → Value.okWide Try.prog W .any base t v := hval0
  have hW' := hW
  obtain ⟨p, q, hA0, hV, rfl, hfz, hnd⟩ := hW
  have hA : DataW.TrodAll enc Try.prog W 0 (fun _ => true) true Try.f13.params.toList args.toList ds p := hA0
  rw [Try.params13] at hA hval
  obtain ⟨v0, vs0, d0, ds0, p0, q0, hargs, rfl, rfl, h0, r0⟩ := trodAll_cons hA
  obtain ⟨rfl, rfl, rfl⟩ := trodAll_nil r0
  obtain rfl : args = #[v0] := by cases args; simp_all
  obtain ⟨rfl, rfl⟩ := trodVars_none hV
  have k0 := h0
  have lt0 : ∀ x ∈ p0, x.block < W.heap.size := by obtain ⟨m, hm⟩ := k0; exact DataW.trod_lt m _ _ _ hm
  obtain ⟨a0, len0, cap0, rfl⟩ := okWide_slice Try.underlying39 (hval 0 39 v0 rfl rfl)
  obtain ⟨z0, w0⟩ : ∃ zs, IsRow .i64 W a0 len0 cap0 zs := by
    obtain ⟨fuel, hf⟩ := h0
    rcases open_ints Try.underlying39 Try.underlying3 (by kernel_rfl) hf with ⟨hcs, _⟩ | ⟨x, l, c, zs, hcs, _, hl, hm, hz, _, hcell, hwz⟩
    · simp [Value.cells] at hcs
      obtain ⟨rfl, rfl, rfl⟩ := hcs
      exact ⟨[], .inl ⟨rfl, rfl, rfl, rfl⟩⟩
    · simp [Value.cells] at hcs
      obtain ⟨rfl, rfl, rfl⟩ := hcs
      exact ⟨zs, .inr ⟨_, rfl, hl, hm, by simpa using hz, hcell, hwz, isRow_lt hcell⟩⟩
  clear hA0 hval0
  refine (walk W a0 len0 cap0 z0 w0).mono fun e W' ⟨he, bel⟩ => ?_
  subst he
  exact ⟨_, rfl, _, _, _, [], _, [], hW', trodAll_mk1 (shut_bool Try.underlying4 _), (trodAll_cons_mk (Below.trod laidOut (by kernel_rfl) (of_decide_eq_true (by kernel_rfl)) k0 bel lt0) trodAll_mk0), rfl, bel.frame _, fun h => by cases h⟩
end fnExactFromChain

theorem fnExactFromChain_holds : Rows.FnExactFromChainSaid :=
  OpenClaim.holds_of_wide 13 Try.f13 rfl rfl rfl rfl rfl rfl rfl ⟨rfl, rfl, rfl, rfl, rfl⟩ rfl rfl rfl rfl rfl (by kernel_rfl) Try.func13 (by kernel_rfl)
    (of_decide_eq_true (by kernel_rfl)) (by unfold Func.isWrapper; first | (rw [if_pos (by decide +kernel)]; kernel_rfl) | (rw [if_neg (by decide +kernel)]; exact ⟨rfl, rfl⟩))
    (fun os started H enc _ => fnExactFromChain.lifted os started H enc)
#print axioms fnExactFromChain_holds

end Go.Proofs.Ytdpekaejklmomaa

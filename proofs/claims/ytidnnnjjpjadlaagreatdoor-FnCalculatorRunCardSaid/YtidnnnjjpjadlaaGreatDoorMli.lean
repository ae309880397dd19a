/- after, on every line. No condition: contract for the walks of the laws. -/
import Derived.Test.YtidnnnjjpjadlaaGreatDoorMlp
import Derived.Test.YtidnnnjjpjadlaaGreatDoorAf4
import Derived.Test.YtidnnnjjpjadlaaGreatDoorMafb
namespace Go.Proofs.YtidnnnjjpjadlaaGreatDoor
open Go.ChangeShapes Go.WideShapes Go.ChangeAt Go.RowKit

def AfRes (w : World) (o : Option CV) (e : Ending) (w' : World) : Prop := (match o with
  | some r => e = .returned (.tuple #[.agg #[.int .i64 r.p, .int .i64 r.q, .int .i64 r.n, .bool r.x], .bool true])
  | none => ∃ p' q' a' x', e = .returned (.tuple #[.agg #[.int .i64 p', .int .i64 q', .int .i64 a', .bool x'], .bool false])) ∧ Below w.heap.size w w'
theorem cmd_set : cmdD.atKey (.string [115, 101, 116]) (.lit (.int .i64 0)) = .lit (.int .i64 0) ∧ Go.Maps.has cmdD (.string [115, 101, 116]) = true := ⟨by kernel_rfl, by kernel_rfl⟩
theorem cmd_add : cmdD.atKey (.string [97, 100, 100]) (.lit (.int .i64 0)) = .lit (.int .i64 1) ∧ Go.Maps.has cmdD (.string [97, 100, 100]) = true := ⟨by kernel_rfl, by kernel_rfl⟩
theorem cmd_sub : cmdD.atKey (.string [115, 117, 98]) (.lit (.int .i64 0)) = .lit (.int .i64 2) ∧ Go.Maps.has cmdD (.string [115, 117, 98]) = true := ⟨by kernel_rfl, by kernel_rfl⟩
theorem cmd_mul : cmdD.atKey (.string [109, 117, 108]) (.lit (.int .i64 0)) = .lit (.int .i64 3) ∧ Go.Maps.has cmdD (.string [109, 117, 108]) = true := ⟨by kernel_rfl, by kernel_rfl⟩
theorem cmd_div : cmdD.atKey (.string [100, 105, 118]) (.lit (.int .i64 0)) = .lit (.int .i64 4) ∧ Go.Maps.has cmdD (.string [100, 105, 118]) = true := ⟨by kernel_rfl, by kernel_rfl⟩
theorem cmd_any (L : List UInt8) : ∃ c kn, cmdD.atKey (.string L) (.lit (.int .i64 0)) = .lit (.int .i64 c) ∧ Go.Maps.has cmdD (.string L) = kn := by
  by_cases h0 : L = [115, 101, 116]
  · rw [h0]; exact ⟨_, _, cmd_set⟩
  by_cases h1 : L = [97, 100, 100]
  · rw [h1]; exact ⟨_, _, cmd_add⟩
  by_cases h2 : L = [115, 117, 98]
  · rw [h2]; exact ⟨_, _, cmd_sub⟩
  by_cases h3 : L = [109, 117, 108]
  · rw [h3]; exact ⟨_, _, cmd_mul⟩
  by_cases h4 : L = [100, 105, 118]
  · rw [h4]; exact ⟨_, _, cmd_div⟩
  exact ⟨_, _, cmd_none h0 h1 h2 h3 h4⟩
set_option maxRecDepth 100000 in
set_option maxHeartbeats 2000000 in
theorem after_impl (p q a : Int) (x : Bool) (s : ByteArray) (m : Int) (w : World) (ha : fitB p q a = true) (hs : s.size ≤ 1048576) (hT : HT w) (hm : (w.cell? ⟨0, 0, none⟩ = some (.int .i64 m))) :
    Calls Tryz.prog 27 #[.agg #[.int .i64 p, .int .i64 q, .int .i64 a, .bool x], .string s] w (AfRes w (afO p q a x s)) := by
  have hR := lnR_size s
  have hL := lnL_size s
  have HC : ∀ w', (w'.cell? ⟨0, 0, none⟩ = some (.int .i64 m)) → Calls Tryz.prog 54 #[.string s, .string ⟨#[32]⟩] w' fun e w'' => e = .returned (.tuple #[.string (sOf (lnL s)), .string (lnR s), .bool (lnF s)]) ∧ ∃ n, w'' = w'.drewN n := fun w' h => by
    have k := Tryz.strings_Cut s ⟨#[32]⟩ m w' (by omega) h
    have e : Lib.cut s.data.toList (⟨#[32]⟩ : ByteArray).data.toList = spl 32 s.data.toList := cut_spl 32 _
    rw [e] at k
    exact k
  have HRD := fun w' hT hm => rds_impl p q (lnR s) m w' hT (by omega) hm
  have hxt : (x || !true) = x := by cases x <;> rfl
  unfold afO
  cases hF : lnF s
  · rw [if_pos rfl]
    rw [hF] at HC
    by_cases h1 : lnL s = [115, 113, 114, 116]
    · rw [if_pos h1]
      rw [h1] at HC
      by_cases h0 : 0 ≤ a
      · rw [if_pos h0]
        exact af_one p q a p q (isq (a * 2 ^ q.toNat)) x x true s _ _ m w hm HC (fun w' => by have k := aw_sqrt p q a x w' ha h0; rw [hxt] at k; exact k)
      · rw [if_neg h0]
        exact af_one_no p q a x s _ _ m w hm HC (fun w' => aw_neg p q a x w' ha (by omega))
    · rw [if_neg h1]
      by_cases h2 : lnL s = [112, 111, 119, 101, 114]
      · rw [if_pos h2]
        rw [h2] at HC
        exact af_one p q a p q (pwN p q a) x (x || !(pwOk p q a)) true s _ _ m w hm HC (fun w' => aw_power p q a x w' ha)
      · rw [if_neg h2]
        by_cases h3 : lnL s = [119, 104, 111, 108, 101]
        · rw [if_pos h3]
          rw [h3] at HC
          exact af_one p q a p q _ x _ true s _ _ m w hm HC (fun w' => aw_whole p q a x w' ha)
        · rw [if_neg h3]
          exact af_one_no p q a x s _ _ m w hm HC (fun w' => aw_other p q a x _ w' (bl_ne (by rw [sOf_bytes]; exact h1)) (bl_ne (by rw [sOf_bytes]; exact h2)) (bl_ne (by rw [sOf_bytes]; exact h3)))
  · rw [if_neg (by decide)]
    rw [hF] at HC
    by_cases h1 : lnL s = [102, 111, 114, 109, 97, 116]
    · rw [if_pos h1]
      rw [h1] at HC
      have HRF := fun w' hm => rf_impl (lnR s) m w' (by omega) hm
      cases ho : rfOk (lnR s)
      · rw [if_neg (by decide)]
        rw [ho] at HRF
        have hg : ¬ rfGood (lnR s) := by unfold rfOk at ho; simpa using ho
        obtain ⟨e1, e2, -⟩ := rf_no hg
        have HTF := fun w' => tfm_impl_out p q (rfA (lnR s)) (rfB (lnR s)) a w' (.inr (by rw [e1, e2]; decide))
        exact (af_fmt p q a _ _ 0 x false false s _ m w hm HC HRF HTF).mono fun e w' ⟨he, hb⟩ => ⟨⟨_, _, _, _, he⟩, hb⟩
      · rw [if_pos rfl]
        rw [ho] at HRF
        obtain ⟨f1, f2, f3, f4⟩ := fmtB_mk (rf_fmt ho)
        have HTF := fun w' => tfm_impl_in p q (rfA (lnR s)) (rfB (lnR s)) a w' ha f1 f2 f3 f4
        exact af_fmt p q a _ _ _ x true _ s _ m w hm HC HRF HTF
    · rw [if_neg h1]
      have hnf := bl_ne (u := sOf (lnL s)) (c := [102, 111, 114, 109, 97, 116]) (by rw [sOf_bytes]; exact h1)
      cases ho : rsOk p q (lnR s)
      · rw [if_neg (by decide)]
        rw [ho] at HRD
        obtain ⟨c, kn, hk⟩ := cmd_any (lnL s)
        rw [← sOf_bytes (lnL s)] at hk
        exact af_no p q a _ x false _ c kn hnf (by omega) hk (.inr (.inl rfl)) s _ m w hT hm HC HRD
      · rw [if_pos rfl]
        have hn := rs_fit ho
        rw [ho] at HRD
        unfold opO
        by_cases k0 : lnL s = [115, 101, 116]
        · rw [if_pos k0]
          rw [k0] at HC
          exact af_set p q a _ x s _ m w hT hm HC HRD
        rw [if_neg k0]
        by_cases k1 : lnL s = [97, 100, 100]
        · rw [if_pos k1]
          rw [k1] at HC
          exact af_add p q a _ x ha hn s _ m w hT hm HC HRD
        rw [if_neg k1]
        by_cases k2 : lnL s = [115, 117, 98]
        · rw [if_pos k2]
          rw [k2] at HC
          exact af_sub p q a _ x ha hn s _ m w hT hm HC HRD
        rw [if_neg k2]
        by_cases k3 : lnL s = [109, 117, 108]
        · rw [if_pos k3]
          rw [k3] at HC
          exact af_mul p q a _ x ha hn s _ m w hT hm HC HRD
        rw [if_neg k3]
        by_cases k4 : lnL s = [100, 105, 118]
        · rw [if_pos k4]
          by_cases h0 : rsN p q (lnR s) = 0
          · rw [if_pos h0]
            rw [h0] at HRD
            have hk := cmd_div
            rw [← k4, ← sOf_bytes (lnL s)] at hk
            exact af_no p q a 0 x true _ 4 true hnf (by omega) hk (.inr (.inr ⟨rfl, rfl⟩)) s _ m w hT hm HC HRD
          · rw [if_neg h0]
            rw [k4] at HC
            exact af_div p q a _ x ha hn h0 s _ m w hT hm HC HRD
        rw [if_neg k4]
        have hk := cmd_none k0 k1 k2 k3 k4
        rw [← sOf_bytes (lnL s)] at hk
        exact af_no p q a _ x true _ 0 false hnf (by omega) hk (.inl rfl) s _ m w hT hm HC HRD
end Go.Proofs.YtidnnnjjpjadlaaGreatDoor

/- CalculatorLine of the program, on every line. No condition: contract for the walks of the laws. -/
namespace Go.Proofs.YtidnnnjjpjadlaaGreatDoor
open Go.ChangeShapes Go.WideShapes Go.ChangeAt Go.RowKit

set_option maxHeartbeats 1000000 in
theorem calv_impl (p q a : Int) (x : Bool) (w : World) {b : Bool} (h : fitB p q a = b) : Calls Tryz.prog 12 #[.agg #[.int .i64 p, .int .i64 q, .int .i64 a, .bool x]] w fun e w' => e = .returned (.bool b) ∧ Below w.heap.size w w' := by
  have FA := Lib.hid (fun w' => fits_impl p q a w')
  rw [h] at FA
  clear h
  go_enter Tryz.func12, Tryz.ntmps12
  go_wp2_with fail
  refine (FA.out _).mono ?_
  rintro e w' ⟨rfl, hb⟩
  (repeat (replace hb := undrew hb)); (repeat (replace hb := unalloc hb))
  have HB := Lib.hid hb
  clear hb
  go_wp2_with fail
  go_ret
  exact ⟨rfl, HB.out⟩
set_option maxRecDepth 100000 in
set_option maxHeartbeats 4000000 in
theorem li_bad (p q a : Int) (x : Bool) (s : ByteArray) (w : World) (hf : fitB p q a = false) : Calls Tryz.prog 8 #[.agg #[.int .i64 p, .int .i64 q, .int .i64 a, .bool x], .string s] w fun e w' => e = .returned (.tuple #[.agg #[.int .i64 (0), .int .i64 (0), .int .i64 (0), .bool (false)], .string ⟨#[]⟩]) ∧ Below w.heap.size w w' := by
  have CV := Lib.hid (fun w' => calv_impl p q a x w' hf)
  clear hf
  have HI : Hid (InA w p q a x ((w.alloc (.cells #[.int .i64 p, .int .i64 q, .int .i64 a, .bool x] 26)).alloc (.cells #[.int .i64 0, .int .i64 0, .int .i64 0, .bool false] 26))) := Lib.hid (InA.start w p q a x)
  go_enter Tryz.func8, Tryz.ntmps8
  go_wp2_with fail
  refine (CV.out _).mono ?_
  rintro e w1 ⟨rfl, hb⟩
  have hI := HI.out.below hb
  clear HI hb
  obtain ⟨kx0, kx1, kx2, kx3⟩ := blk4c hI.c
  obtain ⟨d0, d1, d2, d3⟩ := blk4c hI.r
  obtain ⟨f0, f1, f2, f3⟩ := blk4f hI.r
  have HI := Lib.hid hI
  clear hI
  go_wp2_with fail
  have bk := Lib.hid ((((HI.out.r.set 0 (.int .i64 0)).set 1 (.int .i64 0)).set 2 (.int .i64 0)).set 3 (.bool false))
  have HB := Lib.hid HI.out.bel
  have BK : Blk _ (w.heap.size + 1) 26 #[.int .i64 (0), .int .i64 (0), .int .i64 (0), .bool (false)] := bk.out
  obtain ⟨q0, q1, q2, q3⟩ := blk4c BK
  refine bodyPost_ret (v := .tuple #[.agg #[.int .i64 (0), .int .i64 (0), .int .i64 (0), .bool (false)], .string ⟨#[]⟩]) (by simp [results, Tryz.results8, go_sem, q0, q1, q2, q3]) rfl ?_
  exact ⟨rfl, (by have hb := HB.out; repeat' (first | (with_reducible exact Below.refl _ _) | (with_reducible assumption) | (with_reducible refine below_drewN ?_ _) | (with_reducible refine Below.drew ?_) | (with_reducible refine bl_alloc ?_ _) | (with_reducible refine bl_set ?_ ?_ _) | go_size | omega))⟩
set_option maxRecDepth 100000 in
set_option maxHeartbeats 4000000 in
theorem li_clear (p q a : Int) (x : Bool) (w : World) (hf : fitB p q a = true) : Calls Tryz.prog 8 #[.agg #[.int .i64 p, .int .i64 q, .int .i64 a, .bool x], .string ⟨#[99, 108, 101, 97, 114]⟩] w fun e w' => e = .returned (.tuple #[.agg #[.int .i64 (p), .int .i64 (q), .int .i64 (0), .bool (false)], .string ⟨#[48]⟩]) ∧ Below w.heap.size w w' := by
  have CV := Lib.hid (fun w' => calv_impl p q a x w' hf)
  clear hf
  have HI : Hid (InA w p q a x ((w.alloc (.cells #[.int .i64 p, .int .i64 q, .int .i64 a, .bool x] 26)).alloc (.cells #[.int .i64 0, .int .i64 0, .int .i64 0, .bool false] 26))) := Lib.hid (InA.start w p q a x)
  go_enter Tryz.func8, Tryz.ntmps8
  go_wp2_with fail
  refine (CV.out _).mono ?_
  rintro e w1 ⟨rfl, hb⟩
  have hI := HI.out.below hb
  clear HI hb
  obtain ⟨kx0, kx1, kx2, kx3⟩ := blk4c hI.c
  obtain ⟨d0, d1, d2, d3⟩ := blk4c hI.r
  obtain ⟨f0, f1, f2, f3⟩ := blk4f hI.r
  have HI := Lib.hid hI
  clear hI
  go_wp2_with fail
  have bk := Lib.hid ((((HI.out.r.set 0 (.int .i64 p)).set 1 (.int .i64 q)).set 2 (.int .i64 0)).set 3 (.bool false))
  have HB := Lib.hid HI.out.bel
  have BK : Blk _ (w.heap.size + 1) 26 #[.int .i64 (p), .int .i64 (q), .int .i64 (0), .bool (false)] := bk.out
  obtain ⟨q0, q1, q2, q3⟩ := blk4c BK
  refine bodyPost_ret (v := .tuple #[.agg #[.int .i64 (p), .int .i64 (q), .int .i64 (0), .bool (false)], .string ⟨#[48]⟩]) (by simp [results, Tryz.results8, go_sem, q0, q1, q2, q3]) rfl ?_
  exact ⟨rfl, (by have hb := HB.out; repeat' (first | (with_reducible exact Below.refl _ _) | (with_reducible assumption) | (with_reducible refine below_drewN ?_ _) | (with_reducible refine Below.drew ?_) | (with_reducible refine bl_alloc ?_ _) | (with_reducible refine bl_set ?_ ?_ _) | go_size | omega))⟩
set_option maxRecDepth 100000 in
set_option maxHeartbeats 8000000 in
theorem li_cut (p q a : Int) (x : Bool) (w : World) (hf : fitB p q a = true) : Calls Tryz.prog 8 #[.agg #[.int .i64 p, .int .i64 q, .int .i64 a, .bool x], .string ⟨#[99, 117, 116]⟩] w fun e w' => e = .returned (.tuple #[.agg #[.int .i64 (p), .int .i64 (q), .int .i64 (a), .bool (x)], .string (if x = true then ⟨#[121, 101, 115]⟩ else ⟨#[110, 111]⟩)]) ∧ Below w.heap.size w w' := by
  have CV := Lib.hid (fun w' => calv_impl p q a x w' hf)
  clear hf
  have HI : Hid (InA w p q a x ((w.alloc (.cells #[.int .i64 p, .int .i64 q, .int .i64 a, .bool x] 26)).alloc (.cells #[.int .i64 0, .int .i64 0, .int .i64 0, .bool false] 26))) := Lib.hid (InA.start w p q a x)
  go_enter Tryz.func8, Tryz.ntmps8
  go_wp2_with fail
  refine (CV.out _).mono ?_
  rintro e w1 ⟨rfl, hb⟩
  have hI := HI.out.below hb
  clear HI hb
  obtain ⟨kx0, kx1, kx2, kx3⟩ := blk4c hI.c
  obtain ⟨d0, d1, d2, d3⟩ := blk4c hI.r
  obtain ⟨f0, f1, f2, f3⟩ := blk4f hI.r
  have HI := Lib.hid hI
  clear hI
  cases x
  · go_wp2_with fail
    have bk := Lib.hid ((((HI.out.r.set 0 (.int .i64 p)).set 1 (.int .i64 q)).set 2 (.int .i64 a)).set 3 (.bool false))
    have HB := Lib.hid HI.out.bel
    have BK : Blk _ (w.heap.size + 1) 26 #[.int .i64 (p), .int .i64 (q), .int .i64 (a), .bool (false)] := bk.out
    obtain ⟨q0, q1, q2, q3⟩ := blk4c BK
    refine bodyPost_ret (v := .tuple #[.agg #[.int .i64 (p), .int .i64 (q), .int .i64 (a), .bool (false)], .string ⟨#[110, 111]⟩]) (by simp [results, Tryz.results8, go_sem, q0, q1, q2, q3]) rfl ?_
    exact ⟨rfl, (by have hb := HB.out; repeat' (first | (with_reducible exact Below.refl _ _) | (with_reducible assumption) | (with_reducible refine below_drewN ?_ _) | (with_reducible refine Below.drew ?_) | (with_reducible refine bl_alloc ?_ _) | (with_reducible refine bl_set ?_ ?_ _) | go_size | omega))⟩
  · go_wp2_with fail
    have bk := Lib.hid ((((HI.out.r.set 0 (.int .i64 p)).set 1 (.int .i64 q)).set 2 (.int .i64 a)).set 3 (.bool true))
    have HB := Lib.hid HI.out.bel
    have BK : Blk _ (w.heap.size + 1) 26 #[.int .i64 (p), .int .i64 (q), .int .i64 (a), .bool (true)] := bk.out
    obtain ⟨q0, q1, q2, q3⟩ := blk4c BK
    refine bodyPost_ret (v := .tuple #[.agg #[.int .i64 (p), .int .i64 (q), .int .i64 (a), .bool (true)], .string ⟨#[121, 101, 115]⟩]) (by simp [results, Tryz.results8, go_sem, q0, q1, q2, q3]) rfl ?_
    exact ⟨rfl, (by have hb := HB.out; repeat' (first | (with_reducible exact Below.refl _ _) | (with_reducible assumption) | (with_reducible refine below_drewN ?_ _) | (with_reducible refine Below.drew ?_) | (with_reducible refine bl_alloc ?_ _) | (with_reducible refine bl_set ?_ ?_ _) | go_size | omega))⟩
set_option maxRecDepth 100000 in
set_option maxHeartbeats 8000000 in
theorem li_none (p q a : Int) (x : Bool) (s : ByteArray) (w : World) (hf : fitB p q a = true) (n1 : (s.toList == [99, 108, 101, 97, 114]) = false) (n2 : (s.toList == [99, 117, 116]) = false) (haft : ∀ w', Below w.heap.size w w' → Calls Tryz.prog 27 #[.agg #[.int .i64 p, .int .i64 q, .int .i64 a, .bool x], .string s] w' fun e w'' => (∃ p' q' a' x', e = .returned (.tuple #[.agg #[.int .i64 (p'), .int .i64 (q'), .int .i64 (a'), .bool (x')], .bool false])) ∧ Below w'.heap.size w' w'') : Calls Tryz.prog 8 #[.agg #[.int .i64 p, .int .i64 q, .int .i64 a, .bool x], .string s] w fun e w' => e = .returned (.tuple #[.agg #[.int .i64 (p), .int .i64 (q), .int .i64 (a), .bool (x)], .string ⟨#[119, 104, 97, 116]⟩]) ∧ Below w.heap.size w w' := by
  have CV := Lib.hid (fun w' => calv_impl p q a x w' hf)
  have HAF := Lib.hid haft
  clear hf haft
  have HI : Hid (InA w p q a x ((w.alloc (.cells #[.int .i64 p, .int .i64 q, .int .i64 a, .bool x] 26)).alloc (.cells #[.int .i64 0, .int .i64 0, .int .i64 0, .bool false] 26))) := Lib.hid (InA.start w p q a x)
  go_enter Tryz.func8, Tryz.ntmps8
  go_wp2_with fail
  refine (CV.out _).mono ?_
  rintro e w1 ⟨rfl, hb⟩
  have hI := HI.out.below hb
  clear HI hb
  obtain ⟨kx0, kx1, kx2, kx3⟩ := blk4c hI.c
  obtain ⟨d0, d1, d2, d3⟩ := blk4c hI.r
  obtain ⟨f0, f1, f2, f3⟩ := blk4f hI.r
  have HI := Lib.hid hI
  clear hI
  go_wp2_with fail
  refine (HAF.out _ HI.out.bel).mono ?_
  rintro e w2 ⟨⟨P, Q, N, X, rfl⟩, hb⟩
  have hI := (HI.out.below hb).alloc (.cells #[.int .i64 (P), .int .i64 (Q), .int .i64 (N), .bool (X)] 26)
  clear HI hb kx0 kx1 kx2 kx3 d0 d1 d2 d3 f0 f1 f2 f3
  obtain ⟨kx0, kx1, kx2, kx3⟩ := blk4c hI.c
  obtain ⟨d0, d1, d2, d3⟩ := blk4c hI.r
  obtain ⟨f0, f1, f2, f3⟩ := blk4f hI.r
  have HI := Lib.hid hI
  clear hI
  go_wp2_with fail
  have bk := Lib.hid ((((HI.out.r.set 0 (.int .i64 p)).set 1 (.int .i64 q)).set 2 (.int .i64 a)).set 3 (.bool x))
  have HB := Lib.hid HI.out.bel
  have BK : Blk _ (w.heap.size + 1) 26 #[.int .i64 (p), .int .i64 (q), .int .i64 (a), .bool (x)] := bk.out
  obtain ⟨q0, q1, q2, q3⟩ := blk4c BK
  refine bodyPost_ret (v := .tuple #[.agg #[.int .i64 (p), .int .i64 (q), .int .i64 (a), .bool (x)], .string ⟨#[119, 104, 97, 116]⟩]) (by simp [results, Tryz.results8, go_sem, q0, q1, q2, q3]) rfl ?_
  exact ⟨rfl, (by have hb := HB.out; repeat' (first | (with_reducible exact Below.refl _ _) | (with_reducible assumption) | (with_reducible refine below_drewN ?_ _) | (with_reducible refine Below.drew ?_) | (with_reducible refine bl_alloc ?_ _) | (with_reducible refine bl_set ?_ ?_ _) | go_size | omega))⟩
/-- The worlds in the midst of the last statement: the next calculator at block g. -/
structure InN (w : World) (P Q N : Int) (X : Bool) (g : Nat) (w' : World) : Prop where
  bel : Below w.heap.size w w'
  r : Blk w' (w.heap.size + 1) 26 #[.int .i64 0, .int .i64 0, .int .i64 0, .bool false]
  n : Blk w' g 26 #[.int .i64 (P), .int .i64 (Q), .int .i64 (N), .bool (X)]
theorem InN.below {w w1 w2 : World} {P Q N : Int} {X : Bool} {g : Nat} (h : InN w P Q N X g w1) (hb : Below w1.heap.size w1 w2) : InN w P Q N X g w2 := ⟨bl_behind hb h.bel, h.r.below hb h.r.lt, h.n.below hb h.n.lt⟩
theorem InN.drew {w w1 : World} {P Q N : Int} {X : Bool} {g : Nat} (h : InN w P Q N X g w1) : InN w P Q N X g { w1 with drawn := w1.drawn + 1 } := ⟨h.bel.drew, h.r.drew, h.n.drew⟩
set_option maxRecDepth 100000 in
set_option maxHeartbeats 8000000 in
theorem li_some (p q a P Q N : Int) (x X : Bool) (s : ByteArray) (w : World) (hf : fitB p q a = true) (n1 : (s.toList == [99, 108, 101, 97, 114]) = false) (n2 : (s.toList == [99, 117, 116]) = false) (hT : HT w) (haft : ∀ w', Below w.heap.size w w' → Calls Tryz.prog 27 #[.agg #[.int .i64 p, .int .i64 q, .int .i64 a, .bool x], .string s] w' fun e w'' => e = .returned (.tuple #[.agg #[.int .i64 (P), .int .i64 (Q), .int .i64 (N), .bool (X)], .bool true]) ∧ Below w'.heap.size w' w'') : Calls Tryz.prog 8 #[.agg #[.int .i64 p, .int .i64 q, .int .i64 a, .bool x], .string s] w fun e w' => e = .returned (.tuple #[.agg #[.int .i64 (P), .int .i64 (Q), .int .i64 (N), .bool (X)], .string (sOf (sText P Q N))]) ∧ Below w.heap.size w w' := by
  have CV := Lib.hid (fun w' => calv_impl p q a x w' hf)
  have HAF := Lib.hid haft
  have HTB := Lib.hid hT
  have SI := Lib.hid (fun w' hT => st_impl P Q N w' hT)
  clear hf haft hT
  generalize sOf (sText P Q N) = t at *
  have HI : Hid (InA w p q a x ((w.alloc (.cells #[.int .i64 p, .int .i64 q, .int .i64 a, .bool x] 26)).alloc (.cells #[.int .i64 0, .int .i64 0, .int .i64 0, .bool false] 26))) := Lib.hid (InA.start w p q a x)
  go_enter Tryz.func8, Tryz.ntmps8
  go_wp2_with fail
  refine (CV.out _).mono ?_
  rintro e w1 ⟨rfl, hb⟩
  have hI := HI.out.below hb
  clear HI hb
  obtain ⟨kx0, kx1, kx2, kx3⟩ := blk4c hI.c
  obtain ⟨d0, d1, d2, d3⟩ := blk4c hI.r
  obtain ⟨f0, f1, f2, f3⟩ := blk4f hI.r
  have HI := Lib.hid hI
  clear hI
  go_wp2_with fail
  refine (HAF.out _ HI.out.bel).mono ?_
  rintro e w2 ⟨rfl, hb⟩
  have hI := (HI.out.below hb).alloc (.cells #[.int .i64 (P), .int .i64 (Q), .int .i64 (N), .bool (X)] 26)
  have hn := Blk.new w2 26 #[.int .i64 (P), .int .i64 (Q), .int .i64 (N), .bool (X)]
  clear HI hb kx0 kx1 kx2 kx3 d0 d1 d2 d3 f0 f1 f2 f3
  have HN : Hid (InN w P Q N X w2.heap.size _) := Lib.hid ⟨hI.bel, hI.r, hn⟩
  clear hI hn
  go_wp2_with fail
  refine wp_region_quiet_tail (C := InN w P Q N X w2.heap.size) 6 (by kernel_rfl) (by kernel_rfl) HN.out.drew ?_
  simp only [List.take_succ_cons, List.take_zero, List.drop_succ_cons, List.drop_zero]
  repeat
    (refine wpQuiet_step (fun K hK => ?_)
     go_simp
     first
       | (refine hK _ ?_; clear hK K)
       | (apply Exists.intro
          refine ⟨fun w' hw' => ?_, hK _ ?_⟩
          first
            | (go_at_call 13; with_reducible refine Calls.mono (SI.out _ (HTB.out.below hw'.bel)) ?_; rintro e w3 ⟨rfl, hb2⟩; exact ⟨rfl, hw'.below hb2⟩)
            | (obtain ⟨c0, c1, c2, c3⟩ := blk4c hw'.n; go_simp; rfl)
          clear hK K))
  refine wpQuiet_nil ?_
  intro w4 hw2
  obtain ⟨d0, d1, d2, d3⟩ := blk4c hw2.r
  have f0 := hw2.r.frozen 0
  have f1 := hw2.r.frozen 1
  have f2 := hw2.r.frozen 2
  have f3 := hw2.r.frozen 3
  have bk := Lib.hid ((((hw2.r.set 0 (.int .i64 P)).set 1 (.int .i64 Q)).set 2 (.int .i64 (N))).set 3 (.bool (X)))
  have HB := Lib.hid hw2.bel
  clear hw2
  go_wp2_with fail
  have BK : Blk _ (w.heap.size + 1) 26 #[.int .i64 (P), .int .i64 (Q), .int .i64 (N), .bool (X)] := bk.out
  obtain ⟨q0, q1, q2, q3⟩ := blk4c BK
  refine bodyPost_ret (v := .tuple #[.agg #[.int .i64 (P), .int .i64 (Q), .int .i64 (N), .bool (X)], .string t]) (by simp [results, Tryz.results8, go_sem, q0, q1, q2, q3]) rfl ?_
  exact ⟨rfl, (by have hb := HB.out; repeat' (first | (with_reducible exact Below.refl _ _) | (with_reducible assumption) | (with_reducible refine below_drewN ?_ _) | (with_reducible refine Below.drew ?_) | (with_reducible refine bl_alloc ?_ _) | (with_reducible refine bl_set ?_ ?_ _) | go_size | omega))⟩
theorem line_impl (p q a : Int) (x : Bool) (s : ByteArray) (m : Int) (w : World) (hs : s.size ≤ 1048576) (hT : HT w) (hm : (w.cell? ⟨0, 0, none⟩ = some (.int .i64 m))) :
    Calls Tryz.prog 8 #[.agg #[.int .i64 p, .int .i64 q, .int .i64 a, .bool x], .string s] w fun e w' => e = .returned (.tuple #[.agg #[.int .i64 ((lnO p q a x s).1.p), .int .i64 ((lnO p q a x s).1.q), .int .i64 ((lnO p q a x s).1.n), .bool ((lnO p q a x s).1.x)], .string (lnO p q a x s).2]) ∧ Below w.heap.size w w' := by
  unfold lnO
  cases hf : fitB p q a
  · rw [if_pos rfl]
    exact li_bad p q a x s w hf
  · rw [if_neg (by decide)]
    by_cases h1 : s.data.toList = [99, 108, 101, 97, 114]
    · rw [if_pos h1]
      have e : s = ⟨#[99, 108, 101, 97, 114]⟩ := by rw [← sOf_list s, h1]; rfl
      rw [e]
      exact li_clear p q a x w hf
    · rw [if_neg h1]
      by_cases h2 : s.data.toList = [99, 117, 116]
      · rw [if_pos h2]
        have e : s = ⟨#[99, 117, 116]⟩ := by rw [← sOf_list s, h2]; rfl
        rw [e]
        exact li_cut p q a x w hf
      · rw [if_neg h2]
        have k := fun w' hb => after_impl p q a x s m w' hf hs (hT.below hb) (cell0_below hm hb)
        cases ho : afO p q a x s with
        | none =>
          rw [ho] at k
          exact li_none p q a x s w hf (bl_ne h1) (bl_ne h2) k
        | some r =>
          rw [ho] at k
          exact li_some p q a r.p r.q r.n x r.x s w hf (bl_ne h1) (bl_ne h2) hT k
end Go.Proofs.YtidnnnjjpjadlaaGreatDoor

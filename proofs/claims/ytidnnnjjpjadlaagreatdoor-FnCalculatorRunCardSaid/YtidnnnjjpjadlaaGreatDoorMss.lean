/- ReadStored of the reference, all texts. No condition: contracts for the walks of the laws. -/
import Derived.Test.YtidnnnjjpjadlaaGreatDoorMrs
import Derived.Test.YtidnnnjjpjadlaaGreatDoorRsM
import Derived.Test.YtidnnnjjpjadlaaGreatDoorRsP
import Derived.Test.YtidnnnjjpjadlaaGreatDoorLs2
import Derived.Test.YtidnnnjjpjadlaaGreatDoorMls
import Derived.Test.YtidnnnjjpjadlaaGreatDoorLs5
import Derived.Test.YtidnnnjjpjadlaaGreatDoorLs6
import Derived.Test.YtidnnnjjpjadlaaGreatDoorRfS
namespace Go.Proofs.YtidnnnjjpjadlaaGreatDoor
open Go.ChangeShapes Go.WideShapes Go.ChangeAt Go.RowKit

theorem rds_spec (p q : Int) (s : ByteArray) (w : World) (hs : s.size ≤ 2000000) : Calls Tryz.prog 29 #[.agg #[.int .i64 p, .int .i64 q], .string s] w fun e w' => e = .returned (.tuple #[.int .i64 (rsN p q s), .bool (rsOk p q s)]) ∧ Below w.heap.size w w' := by
  rcases hv0 : fmtB p q
  · exact rds_bad p q s w hv0
  · rcases (by omega : s.size = 0 ∨ 0 < s.size) with hz | hz
    · exact rds_nil p q s w hv0 hz
    · by_cases h45 : s[0] = 45
      · exact rds_min p q s w hs hv0 hz h45
      · exact rds_pos p q s w hs hv0 hz h45
end Go.Proofs.YtidnnnjjpjadlaaGreatDoor

/- CalculatorLine of the reference, on every line. No condition: contract for the walks of the laws. -/
namespace Go.Proofs.YtidnnnjjpjadlaaGreatDoor
open Go.ChangeShapes Go.WideShapes Go.ChangeAt Go.RowKit

theorem rs_nil (p q : Int) : rsOk p q (sOf []) = false := by
  refine (rs_no fun ⟨n, h1, h2⟩ => ?_).2
  have e : sText p q n = [] := sOf_inj h2
  rcases (by omega : 0 ≤ n ∨ n < 0) with h | h
  · rw [sText_pos h1 h] at e
    obtain ⟨b, l, hm, -⟩ := mText_head (q := q) h
    rw [hm] at e
    cases e
  · rw [sText_neg h1 h] at e
    cases e
theorem rf_nil : rfOk (sOf []) = false := by
  refine (rf_no fun hg => ?_).2.2
  obtain ⟨p, q, h1, h2⟩ := rfGood_mk hg
  have e : fText p q = [] := sOf_inj h2
  unfold fText at e
  rw [if_pos h1] at e
  simp at e
theorem spl_all {c : UInt8} : ∀ {l : List UInt8}, (spl c l).2.2 = false → (spl c l).1 = l ∧ (spl c l).2.1 = []
  | [], _ => ⟨rfl, rfl⟩
  | b :: l, h => by
    unfold spl at h ⊢
    split at h
    · cases h
    · rename_i hb
      rw [if_neg hb]
      obtain ⟨e1, e2⟩ := spl_all (l := l) h
      exact ⟨by rw [e1], e2⟩
theorem lnF_no {s : ByteArray} {l : List UInt8} (h : s.data.toList = l) (hl : (spl 32 l).2.2 = false) : lnF s = false := by unfold lnF; rw [h]; exact hl
/-- A line that is not known, whatever its word. -/
theorem lw_all (p q a n : Int) (x : Bool) (s t : ByteArray) (L : List UInt8) (w : World) (hf : fitB p q a = true) (h1 : ¬ s.data.toList = [99, 108, 101, 97, 114]) (h2 : ¬ s.data.toList = [99, 117, 116]) (h3 : ¬ s.data.toList = [115, 113, 114, 116]) (h4 : ¬ s.data.toList = [112, 111, 119, 101, 114]) (h5 : ¬ s.data.toList = [119, 104, 111, 108, 101]) (h6 : ¬ L = [102, 111, 114, 109, 97, 116]) (hw : ∀ w', Calls Tryz.prog 28 #[.string s] w' fun e w'' => e = .returned (.tuple #[.string (sOf L), .string t]) ∧ ∃ n, w'' = w'.drewN n) (hread : ∀ w', Calls Tryz.prog 29 #[.agg #[.int .i64 p, .int .i64 q], .string t] w' fun e w'' => e = .returned (.tuple #[.int .i64 n, .bool false]) ∧ Below w'.heap.size w' w'') :
    Calls Tryz.prog 9 #[.agg #[.int .i64 p, .int .i64 q, .int .i64 a, .bool x], .string s] w fun e w' => e = .returned (.tuple #[.agg #[.int .i64 (p), .int .i64 (q), .int .i64 (a), .bool (x)], .string ⟨#[119, 104, 97, 116]⟩]) ∧ Below w.heap.size w w' := by
  by_cases k0 : L = [115, 101, 116]
  · rw [k0] at hw
    exact lw_no_set p q a n x s t w hf (bl_ne h1) (bl_ne h2) (bl_ne h3) (bl_ne h4) (bl_ne h5) hw hread
  by_cases k1 : L = [97, 100, 100]
  · rw [k1] at hw
    exact lw_no_add p q a n x s t w hf (bl_ne h1) (bl_ne h2) (bl_ne h3) (bl_ne h4) (bl_ne h5) hw hread
  by_cases k2 : L = [115, 117, 98]
  · rw [k2] at hw
    exact lw_no_sub p q a n x s t w hf (bl_ne h1) (bl_ne h2) (bl_ne h3) (bl_ne h4) (bl_ne h5) hw hread
  by_cases k3 : L = [109, 117, 108]
  · rw [k3] at hw
    exact lw_no_mul p q a n x s t w hf (bl_ne h1) (bl_ne h2) (bl_ne h3) (bl_ne h4) (bl_ne h5) hw hread
  by_cases k4 : L = [100, 105, 118]
  · rw [k4] at hw
    exact lw_no_div p q a n x s t w hf (bl_ne h1) (bl_ne h2) (bl_ne h3) (bl_ne h4) (bl_ne h5) hw hread
  exact lw_other p q a n x false s (sOf L) t w hf (bl_ne k0) (bl_ne k1) (bl_ne k2) (bl_ne k3) (bl_ne k4) (bl_ne h6) (bl_ne h1) (bl_ne h2) (bl_ne h3) (bl_ne h4) (bl_ne h5) hw hread
set_option maxRecDepth 100000 in
set_option maxHeartbeats 2000000 in
theorem line_spec (p q a : Int) (x : Bool) (s : ByteArray) (w : World) (hs : s.size ≤ 1048576) :
    Calls Tryz.prog 9 #[.agg #[.int .i64 p, .int .i64 q, .int .i64 a, .bool x], .string s] w fun e w' => e = .returned (.tuple #[.agg #[.int .i64 ((lnO p q a x s).1.p), .int .i64 ((lnO p q a x s).1.q), .int .i64 ((lnO p q a x s).1.n), .bool ((lnO p q a x s).1.x)], .string (lnO p q a x s).2]) ∧ Below w.heap.size w w' := by
  have hR := lnR_size s
  have hw := fun w' => words_any s w' hs
  have hr := fun w' => rds_spec p q (lnR s) w' (by omega)
  have hxt : (x || !true) = x := by cases x <;> rfl
  unfold lnO
  cases hf : fitB p q a
  · rw [if_pos rfl]
    exact lb_bad p q a x s w hf
  rw [if_neg (by decide)]
  by_cases h1 : s.data.toList = [99, 108, 101, 97, 114]
  · rw [if_pos h1]
    have e : s = ⟨#[99, 108, 101, 97, 114]⟩ := by rw [← sOf_list s, h1]; rfl
    have k := lb_clear p q a (rsN p q (lnR s)) x (rsOk p q (lnR s)) (sOf (lnL s)) (lnR s) w hf (e ▸ hw) hr
    rw [← e] at k
    exact k
  rw [if_neg h1]
  by_cases h2 : s.data.toList = [99, 117, 116]
  · rw [if_pos h2]
    have e : s = ⟨#[99, 117, 116]⟩ := by rw [← sOf_list s, h2]; rfl
    have k := lb_cut p q a (rsN p q (lnR s)) x (rsOk p q (lnR s)) (sOf (lnL s)) (lnR s) w hf (e ▸ hw) hr
    rw [← e] at k
    exact k
  rw [if_neg h2]
  unfold afO
  cases hF : lnF s
  · rw [if_pos rfl]
    obtain ⟨e1, e2⟩ := spl_all (l := s.data.toList) hF
    have eL : lnL s = s.data.toList := e1
    have eR : lnR s = sOf [] := by unfold lnR; rw [e2]
    have es : sOf (lnL s) = s := by rw [eL, sOf_list]
    by_cases h3 : lnL s = [115, 113, 114, 116]
    · have e : s = ⟨#[115, 113, 114, 116]⟩ := by rw [← es, h3]; rfl
      rw [if_pos h3]
      rw [h3] at hw
      by_cases h0 : 0 ≤ a
      · rw [if_pos h0]
        have k := ls_sqrt p q a (rsN p q (lnR s)) x (rsOk p q (lnR s)) (lnR s) w hf h0 (fun w' => by have k := hw w'; rw [e] at k ⊢; exact k) hr
        rw [← e, hxt] at k
        exact k
      · rw [if_neg h0]
        have k := lw_neg p q a (rsN p q (lnR s)) x (rsOk p q (lnR s)) (lnR s) w hf (by omega) (fun w' => by have k := hw w'; rw [e] at k ⊢; exact k) hr
        rw [← e] at k
        exact k
    rw [if_neg h3]
    by_cases h4 : lnL s = [112, 111, 119, 101, 114]
    · have e : s = ⟨#[112, 111, 119, 101, 114]⟩ := by rw [← es, h4]; rfl
      rw [if_pos h4]
      rw [h4] at hw
      have k := ls_power p q a (rsN p q (lnR s)) x (rsOk p q (lnR s)) (lnR s) w hf (fun w' => by have k := hw w'; rw [e] at k ⊢; exact k) hr
      rw [← e] at k
      exact k
    rw [if_neg h4]
    by_cases h5 : lnL s = [119, 104, 111, 108, 101]
    · have e : s = ⟨#[119, 104, 111, 108, 101]⟩ := by rw [← es, h5]; rfl
      rw [if_pos h5]
      rw [h5] at hw
      have k := ls_whole p q a (rsN p q (lnR s)) x (rsOk p q (lnR s)) (lnR s) w hf (fun w' => by have k := hw w'; rw [e] at k ⊢; exact k) hr
      rw [← e] at k
      exact k
    rw [if_neg h5]
    rw [eL] at h3 h4 h5
    rw [eR] at hr hw
    rw [rs_nil] at hr
    by_cases h6 : lnL s = [102, 111, 114, 109, 97, 116]
    · rw [h6] at hw
      have HRF := fun w' => rf_spec (sOf []) w'
      rw [rf_nil] at HRF
      exact lw_fmt p q a _ _ _ x false s _ w hf (bl_ne h1) (bl_ne h2) (bl_ne h3) (bl_ne h4) (bl_ne h5) hw hr HRF
    · exact lw_all p q a _ x s _ (lnL s) w hf h1 h2 h3 h4 h5 h6 hw hr
  rw [if_neg (by decide)]
  have h3 : ¬ s.data.toList = [115, 113, 114, 116] := fun h => by rw [lnF_no h (by decide)] at hF; cases hF
  have h4 : ¬ s.data.toList = [112, 111, 119, 101, 114] := fun h => by rw [lnF_no h (by decide)] at hF; cases hF
  have h5 : ¬ s.data.toList = [119, 104, 111, 108, 101] := fun h => by rw [lnF_no h (by decide)] at hF; cases hF
  by_cases h6 : lnL s = [102, 111, 114, 109, 97, 116]
  · rw [if_pos h6]
    rw [h6] at hw
    have HRF := fun w' => rf_spec (lnR s) w'
    cases ho : rfOk (lnR s)
    · rw [if_neg (by decide)]
      rw [ho] at HRF
      exact lw_fmt p q a _ _ _ x _ s _ w hf (bl_ne h1) (bl_ne h2) (bl_ne h3) (bl_ne h4) (bl_ne h5) hw hr HRF
    · rw [if_pos rfl]
      rw [ho] at HRF
      obtain ⟨f1, f2, f3, f4⟩ := fmtB_mk (rf_fmt ho)
      have HTF := fun w' => tfm_spec_in p q (rfA (lnR s)) (rfB (lnR s)) a w' hf f1 f2 f3 f4
      exact ls_fmt p q a _ _ _ _ x _ _ s _ w hf (bl_ne h1) (bl_ne h2) (bl_ne h3) (bl_ne h4) (bl_ne h5) hw hr HRF HTF
  rw [if_neg h6]
  cases ho : rsOk p q (lnR s)
  · rw [if_neg (by decide)]
    rw [ho] at hr
    exact lw_all p q a _ x s _ (lnL s) w hf h1 h2 h3 h4 h5 h6 hw hr
  rw [if_pos rfl]
  have hn := rs_fit ho
  rw [ho] at hr
  unfold opO
  by_cases k0 : lnL s = [115, 101, 116]
  · rw [if_pos k0]
    rw [k0] at hw
    have k := ls_set p q a (rsN p q (lnR s)) x s _ w hf (bl_ne h1) (bl_ne h2) hw hr
    rw [hxt] at k
    exact k
  rw [if_neg k0]
  by_cases k1 : lnL s = [97, 100, 100]
  · rw [if_pos k1]
    rw [k1] at hw
    exact ls_add p q a _ x s _ w hf hn (bl_ne h1) (bl_ne h2) hw hr
  rw [if_neg k1]
  by_cases k2 : lnL s = [115, 117, 98]
  · rw [if_pos k2]
    rw [k2] at hw
    exact ls_sub p q a _ x s _ w hf hn (bl_ne h1) (bl_ne h2) hw hr
  rw [if_neg k2]
  by_cases k3 : lnL s = [109, 117, 108]
  · rw [if_pos k3]
    rw [k3] at hw
    exact ls_mul p q a _ x s _ w hf hn (bl_ne h1) (bl_ne h2) hw hr
  rw [if_neg k3]
  by_cases k4 : lnL s = [100, 105, 118]
  · rw [if_pos k4]
    rw [k4] at hw
    by_cases h0 : rsN p q (lnR s) = 0
    · rw [if_pos h0]
      rw [h0] at hr
      exact lw_div0 p q a x s _ w hf (bl_ne h1) (bl_ne h2) (bl_ne h3) (bl_ne h4) (bl_ne h5) hw hr
    · rw [if_neg h0]
      exact ls_div p q a _ x s _ w hf hn h0 (bl_ne h1) (bl_ne h2) hw hr
  rw [if_neg k4]
  exact lw_other p q a _ x true s (sOf (lnL s)) _ w hf (bl_ne k0) (bl_ne k1) (bl_ne k2) (bl_ne k3) (bl_ne k4) (bl_ne h6) (bl_ne h1) (bl_ne h2) (bl_ne h3) (bl_ne h4) (bl_ne h5) hw hr
end Go.Proofs.YtidnnnjjpjadlaaGreatDoor

/- The fractions. No condition: contracts for the walks of the laws. -/
import Derived.Test.YtdpekaejklmomaaGcd
namespace Go.Proofs.Ytdpekaejklmomaa
open Go.ChangeShapes Go.WideShapes Go.ChangeAt Go.RowKit


attribute [local go_sem] alloc_drewN' setCell_drewN'
def frOk (t l : Int) : Bool := decide (-1000000 ≤ t ∧ t ≤ 1000000 ∧ 1 ≤ l ∧ l ≤ 1000000 ∧ Int.gcd t l = 1)
theorem frOk_in {t l : Int} (h1 : -1000000 ≤ t) (h2 : t ≤ 1000000) (h3 : 1 ≤ l) (h4 : l ≤ 1000000) : (gcdOf t l == 1) = frOk t l := by
  rw [gcdOf_in (by unfold gcdOk; omega)]
  unfold frOk
  by_cases h : Int.gcd t l = 1
  · simp [h]; omega
  · have : ((Int.gcd t l : Int) == 1) = false := by simp; omega
    rw [this]; symm; simp; omega
theorem frOk_out {t l : Int} (h : ¬ (-1000000 ≤ t ∧ t ≤ 1000000 ∧ 1 ≤ l ∧ l ≤ 1000000)) : false = frOk t l := by
  unfold frOk; symm; simp; omega
theorem frOk_mk {t l : Int} (h : frOk t l = true) : -1000000 ≤ t ∧ t ≤ 1000000 ∧ 1 ≤ l ∧ l ≤ 1000000 ∧ Int.gcd t l = 1 := by
  unfold frOk at h; simpa using h
/-- The fraction of two numbers that are not too great. -/
def mkF (t l : Int) : (Int × Int) × Bool :=
  if l < 0 then (if frOk (-(t.tdiv (gcdOf t l))) (-(l.tdiv (gcdOf t l))) then ((-(t.tdiv (gcdOf t l)), -(l.tdiv (gcdOf t l))), true) else ((0, 0), false))
  else (if frOk (t.tdiv (gcdOf t l)) (l.tdiv (gcdOf t l)) then ((t.tdiv (gcdOf t l), l.tdiv (gcdOf t l)), true) else ((0, 0), false))
def redF (t l : Int) : (Int × Int) × Bool := if gcdOk t l ∧ l ≠ 0 then mkF t l else ((0, 0), false)
theorem redF_in {t l : Int} (h : gcdOk t l ∧ l ≠ 0) : redF t l = mkF t l := by unfold redF; rw [if_pos h]
theorem redF_out {t l : Int} (h : ¬ (gcdOk t l ∧ l ≠ 0)) : redF t l = ((0, 0), false) := by unfold redF; rw [if_neg h]
theorem tdiv_small {t n : Int} (_ : 1 ≤ n) (h1 : -1152921504606846976 ≤ t) (h2 : t ≤ 1152921504606846976) : -1152921504606846976 ≤ t.tdiv n ∧ t.tdiv n ≤ 1152921504606846976 := by
  have h : (t.tdiv n).natAbs ≤ t.natAbs := by rw [Int.natAbs_tdiv]; exact Nat.div_le_self _ _
  omega
theorem mkF_parts {t l : Int} (h : gcdOk t l) (hl : l ≠ 0) : ∃ n p q : Int, 1 ≤ n ∧ n ≤ 1152921504606846976 ∧ gcdOf t l = n ∧ t.tdiv n = p ∧ l.tdiv n = q ∧ (-1152921504606846976 ≤ p) ∧ p ≤ 1152921504606846976 ∧ (-1152921504606846976 ≤ q) ∧ q ≤ 1152921504606846976 ∧
    mkF t l = if l < 0 then (if frOk (-p) (-q) then ((-p, -q), true) else ((0, 0), false)) else (if frOk p q then ((p, q), true) else ((0, 0), false)) := by
  have e := gcdOf_in h
  obtain ⟨h1, h2, h3, h4⟩ := h
  have hp : 0 < Int.gcd t l := Int.gcd_pos_of_ne_zero_right _ hl
  have hle : Int.gcd t l ≤ l.natAbs := Nat.le_of_dvd (by omega) (Nat.gcd_dvd_right _ _)
  obtain ⟨p1, p2⟩ := tdiv_small (n := (Int.gcd t l : Int)) (by omega) h1 h2
  obtain ⟨q1, q2⟩ := tdiv_small (n := (Int.gcd t l : Int)) (by omega) h3 h4
  refine ⟨(Int.gcd t l : Int), _, _, by omega, by omega, e, rfl, rfl, p1, p2, q1, q2, ?_⟩
  unfold mkF
  rw [e]
/-- What a function leaves that makes a fraction. -/
def FrPost (r : (Int × Int) × Bool) (w : World) (e : Ending) (w' : World) : Prop :=
  ∃ (p q : Int) (o : Bool), e = .returned (.tuple #[.agg #[.int .i64 p, .int .i64 q], .bool o]) ∧ r = ((p, q), o) ∧ Below w.heap.size w w'
theorem FrPost.mk {r : (Int × Int) × Bool} {w : World} {e : Ending} {w' : World} {p q : Int} {o : Bool} (hm : r = ((p, q), o)) (he : e = .returned (.tuple #[.agg #[.int .i64 p, .int .i64 q], .bool o])) (hb : Below w.heap.size w w') : FrPost r w e w' := ⟨p, q, o, he, hm, hb⟩
def frAdd (a b c d : Int) : (Int × Int) × Bool := if frOk a b = true ∧ frOk c d = true then mkF (a * d + c * b) (b * d) else ((0, 0), false)
def frMul (a b c d : Int) : (Int × Int) × Bool := if frOk a b = true ∧ frOk c d = true then mkF (a * c) (b * d) else ((0, 0), false)
theorem frAdd_in {a b c d : Int} (h1 : frOk a b = true) (h2 : frOk c d = true) : frAdd a b c d = mkF (a * d + c * b) (b * d) := by unfold frAdd; rw [if_pos ⟨h1, h2⟩]
theorem frMul_in {a b c d : Int} (h1 : frOk a b = true) (h2 : frOk c d = true) : frMul a b c d = mkF (a * c) (b * d) := by unfold frMul; rw [if_pos ⟨h1, h2⟩]
theorem frAdd_out {a b c d : Int} (h : frOk a b = false ∨ frOk c d = false) : frAdd a b c d = ((0, 0), false) := by
  unfold frAdd; rw [if_neg]; rintro ⟨h1, h2⟩; simp [h1, h2] at h
theorem frMul_out {a b c d : Int} (h : frOk a b = false ∨ frOk c d = false) : frMul a b c d = ((0, 0), false) := by
  unfold frMul; rw [if_neg]; rintro ⟨h1, h2⟩; simp [h1, h2] at h
theorem mul_bd {x y M K : Int} (hM : 0 ≤ M) (h1 : -M ≤ x) (h2 : x ≤ M) (h3 : -K ≤ y) (h4 : y ≤ K) : -(M * K) ≤ x * y ∧ x * y ≤ M * K := by
  have hx : x.natAbs ≤ M.toNat := by omega
  have hy : y.natAbs ≤ K.toNat := by omega
  have h : (x * y).natAbs ≤ M.toNat * K.toNat := by rw [Int.natAbs_mul]; exact Nat.mul_le_mul hx hy
  have e : ((M.toNat * K.toNat : Nat) : Int) = M * K := by rw [Int.natCast_mul, Int.toNat_of_nonneg hM, Int.toNat_of_nonneg (by omega)]
  omega
theorem fr_bds {a b c d : Int} (h1 : frOk a b = true) (h2 : frOk c d = true) : -1000000 ≤ a ∧ a ≤ 1000000 ∧ 1 ≤ b ∧ b ≤ 1000000 ∧ -1000000 ≤ c ∧ c ≤ 1000000 ∧ 1 ≤ d ∧ d ≤ 1000000 ∧ (-1000000000000 ≤ a * d) ∧ a * d ≤ 1000000000000 ∧ (-1000000000000 ≤ c * b) ∧ c * b ≤ 1000000000000 ∧ 1 ≤ b * d ∧ b * d ≤ 1000000000000 ∧ (-1000000000000 ≤ a * c) ∧ a * c ≤ 1000000000000 := by
  obtain ⟨a1, a2, b1, b2, -⟩ := frOk_mk h1
  obtain ⟨c1, c2, d1, d2, -⟩ := frOk_mk h2
  have m1 := mul_bd (x := a) (y := d) (M := 1000000) (K := 1000000) (by omega) (by omega) (by omega) (by omega) (by omega)
  have m2 := mul_bd (x := c) (y := b) (M := 1000000) (K := 1000000) (by omega) (by omega) (by omega) (by omega) (by omega)
  have m3 := mul_bd (x := b) (y := d) (M := 1000000) (K := 1000000) (by omega) (by omega) (by omega) (by omega) (by omega)
  have m4 := mul_bd (x := a) (y := c) (M := 1000000) (K := 1000000) (by omega) (by omega) (by omega) (by omega) (by omega)
  have m5 : 0 < b * d := Int.mul_pos (by omega) (by omega)
  exact ⟨a1, a2, b1, b2, c1, c2, d1, d2, by omega, by omega, by omega, by omega, by omega, by omega, by omega, by omega⟩
theorem frAdd_ok {a b c d : Int} (h1 : frOk a b = true) (h2 : frOk c d = true) : gcdOk (a * d + c * b) (b * d) ∧ b * d ≠ 0 := by
  obtain ⟨a1, a2, b1, b2, c1, c2, d1, d2, m1, m2, m3, m4, m5, m6, m7, m8⟩ := fr_bds h1 h2
  unfold gcdOk; omega
theorem frMul_ok {a b c d : Int} (h1 : frOk a b = true) (h2 : frOk c d = true) : gcdOk (a * c) (b * d) ∧ b * d ≠ 0 := by
  obtain ⟨a1, a2, b1, b2, c1, c2, d1, d2, m1, m2, m3, m4, m5, m6, m7, m8⟩ := fr_bds h1 h2
  unfold gcdOk; omega

set_option maxHeartbeats 400000 in
theorem fv_impl (t l : Int) (w : World) : Calls Try.prog 34 #[.agg #[.int .i64 t, .int .i64 l]] w fun e w' => e = .returned (.bool (frOk t l)) ∧ ∃ m, w' = (w.alloc (.cells #[.int .i64 t, .int .i64 l] 41)).drewN m := by
  rcases (by omega : (-1000000 ≤ t ∧ t ≤ 1000000 ∧ 1 ≤ l ∧ l ≤ 1000000) ∨ (t < -1000000 ∨ 1000000 < t) ∨ (-1000000 ≤ t ∧ t ≤ 1000000 ∧ l < 1) ∨ (-1000000 ≤ t ∧ t ≤ 1000000 ∧ 1 ≤ l ∧ 1000000 < l)) with ⟨h1, h2, h3, h4⟩ | h1 | ⟨h1, h2, h3⟩ | ⟨h1, h2, h3, h4⟩
  · have HE := Lib.hid (frOk_in h1 h2 h3 h4)
    go_enter Try.func34, Try.ntmps34
    go_wp2_with (first | (go_at_call 58; refine (within_yes _ _ _ (by omega) (by omega) (by omega) (by omega)).mono ?_; rintro e w' ⟨rfl, rfl⟩) | (go_at_call 58; refine (within_no _ _ _ (by omega) (by omega) (by omega)).mono ?_; rintro e w' ⟨rfl, rfl⟩) | (go_at_call 22; refine (gcd_impl _ _ _).mono ?_; rintro e w' ⟨rfl, mm, rfl⟩) | go_in)
    go_ret
    exact ⟨ret_bool (by first | exact HE.out | (rw [← HE.out]; rfl) | (rw [← HE.out]; simp)), _, rfl⟩
  all_goals
    have HE := Lib.hid (frOk_out (t := t) (l := l) (by omega))
    go_enter Try.func34, Try.ntmps34
    go_wp2_with (first | (go_at_call 58; refine (within_yes _ _ _ (by omega) (by omega) (by omega) (by omega)).mono ?_; rintro e w' ⟨rfl, rfl⟩) | (go_at_call 58; refine (within_no _ _ _ (by omega) (by omega) (by omega)).mono ?_; rintro e w' ⟨rfl, rfl⟩) | (go_at_call 22; refine (gcd_impl _ _ _).mono ?_; rintro e w' ⟨rfl, mm, rfl⟩) | go_in)
    go_ret
    exact ⟨ret_bool HE.out, 0, rfl⟩

set_option maxHeartbeats 400000 in
theorem fv_spec (t l : Int) (w : World) : Calls Try.prog 54 #[.agg #[.int .i64 t, .int .i64 l]] w fun e w' => e = .returned (.bool (frOk t l)) ∧ ∃ m, w' = (w.alloc (.cells #[.int .i64 t, .int .i64 l] 41)).drewN m := by
  rcases (by omega : (-1000000 ≤ t ∧ t ≤ 1000000 ∧ 1 ≤ l ∧ l ≤ 1000000) ∨ (t < -1000000 ∨ 1000000 < t) ∨ (-1000000 ≤ t ∧ t ≤ 1000000 ∧ l < 1) ∨ (-1000000 ≤ t ∧ t ≤ 1000000 ∧ 1 ≤ l ∧ 1000000 < l)) with ⟨h1, h2, h3, h4⟩ | h1 | ⟨h1, h2, h3⟩ | ⟨h1, h2, h3, h4⟩
  · have HE := Lib.hid (frOk_in h1 h2 h3 h4)
    go_enter Try.func54, Try.ntmps54
    go_wp2_with (first | (go_at_call 46; refine (l1in_yes _ _ _ _ (by omega) (by omega)).mono ?_; rintro e w' ⟨rfl, rfl⟩) | (go_at_call 46; refine (l1in_no _ _ _ _ (by omega)).mono ?_; rintro e w' ⟨rfl, rfl⟩) | (go_at_call 51; refine (gcd_spec _ _ _).mono ?_; rintro e w' ⟨rfl, mm, rfl⟩) | go_in)
    go_ret
    exact ⟨ret_bool (by first | exact HE.out | (rw [← HE.out]; rfl) | (rw [← HE.out]; simp)), _, rfl⟩
  all_goals
    have HE := Lib.hid (frOk_out (t := t) (l := l) (by omega))
    go_enter Try.func54, Try.ntmps54
    go_wp2_with (first | (go_at_call 46; refine (l1in_yes _ _ _ _ (by omega) (by omega)).mono ?_; rintro e w' ⟨rfl, rfl⟩) | (go_at_call 46; refine (l1in_no _ _ _ _ (by omega)).mono ?_; rintro e w' ⟨rfl, rfl⟩) | (go_at_call 51; refine (gcd_spec _ _ _).mono ?_; rintro e w' ⟨rfl, mm, rfl⟩) | go_in)
    go_ret
    exact ⟨ret_bool HE.out, 0, rfl⟩


set_option maxHeartbeats 1000000 in
theorem make_spec_in (t l : Int) (w : World) (h : gcdOk t l) (hl : l ≠ 0) : Calls Try.prog 63 #[.int .i64 t, .int .i64 l] w (FrPost (mkF t l) w) := by
  obtain ⟨n, p, q, n1, n2, hn, hp, hq, p1, p2, q1, q2, hm⟩ := mkF_parts h hl
  have HC : Hid (∀ w, Calls Try.prog 51 #[.int .i64 t, .int .i64 l] w fun e w' => e = .returned (.int .i64 n) ∧ ∃ m, w' = w.drewN m) := Lib.hid (fun w => hn ▸ gcd_spec t l w)
  obtain ⟨h1, h2, h3, h4⟩ := h
  have HP := Lib.hid (fun p q o e w' hm hb he => FrPost.mk (r := mkF t l) (w := w) (p := p) (q := q) (o := o) (e := e) (w' := w') hm he hb)
  clear hn
  by_cases hs : l < 0
  · rw [if_pos hs] at hm
    have hp' := (Int.tdiv_neg t n).trans (congrArg (- ·) hp)
    have hq' := (Int.tdiv_neg l n).trans (congrArg (- ·) hq)
    obtain ⟨o, ho⟩ : ∃ o, frOk (-p) (-q) = o := ⟨_, rfl⟩
    rw [ho] at hm
    have HM := Lib.hid hm
    clear hm
    cases o
    all_goals
      go_enter Try.func63, Try.ntmps63
      go_wp2_with (first | (go_at_call 51; refine (HC.out _).mono ?_; rintro e w' ⟨rfl, m, rfl⟩) | (go_at_call 54; refine (fv_spec _ _ _).mono ?_; rintro e w' ⟨rfl, m, rfl⟩) | go_in)
      all_goals (try go_region)
      all_goals (try (go_wp2_with (first | (go_at_call 51; refine (HC.out _).mono ?_; rintro e w' ⟨rfl, m, rfl⟩) | (go_at_call 54; refine (fv_spec _ _ _).mono ?_; rintro e w' ⟨rfl, m, rfl⟩) | go_in)))
      all_goals (try go_region)
      all_goals (try (go_wp2_with (first | (go_at_call 51; refine (HC.out _).mono ?_; rintro e w' ⟨rfl, m, rfl⟩) | (go_at_call 54; refine (fv_spec _ _ _).mono ?_; rintro e w' ⟨rfl, m, rfl⟩) | go_in)))
      go_returns
      exact HP.out _ _ _ _ _ HM.out (by repeat' (first | (with_reducible exact Below.refl _ _) | (with_reducible assumption) | (with_reducible refine below_drewN ?_ _) | (with_reducible refine bl_alloc ?_ _) | (with_reducible refine bl_set ?_ ?_ _) | go_size | omega)) rfl
  · rw [if_neg hs] at hm
    obtain ⟨o, ho⟩ : ∃ o, frOk p q = o := ⟨_, rfl⟩
    rw [ho] at hm
    have HM := Lib.hid hm
    clear hm
    cases o
    all_goals
      go_enter Try.func63, Try.ntmps63
      go_wp2_with (first | (go_at_call 51; refine (HC.out _).mono ?_; rintro e w' ⟨rfl, m, rfl⟩) | (go_at_call 54; refine (fv_spec _ _ _).mono ?_; rintro e w' ⟨rfl, m, rfl⟩) | go_in)
      all_goals (try go_region)
      all_goals (try (go_wp2_with (first | (go_at_call 51; refine (HC.out _).mono ?_; rintro e w' ⟨rfl, m, rfl⟩) | (go_at_call 54; refine (fv_spec _ _ _).mono ?_; rintro e w' ⟨rfl, m, rfl⟩) | go_in)))
      all_goals (try go_region)
      all_goals (try (go_wp2_with (first | (go_at_call 51; refine (HC.out _).mono ?_; rintro e w' ⟨rfl, m, rfl⟩) | (go_at_call 54; refine (fv_spec _ _ _).mono ?_; rintro e w' ⟨rfl, m, rfl⟩) | go_in)))
      go_returns
      exact HP.out _ _ _ _ _ HM.out (by repeat' (first | (with_reducible exact Below.refl _ _) | (with_reducible assumption) | (with_reducible refine below_drewN ?_ _) | (with_reducible refine bl_alloc ?_ _) | (with_reducible refine bl_set ?_ ?_ _) | go_size | omega)) rfl


set_option maxHeartbeats 1000000 in
theorem red_spec (t l : Int) (w : World) : Calls Try.prog 62 #[.int .i64 t, .int .i64 l] w (FrPost (redF t l) w) := by
  by_cases h : gcdOk t l ∧ l ≠ 0
  · rw [redF_in h]
    obtain ⟨h, hl⟩ := h
    have HS := Lib.hid h
    obtain ⟨h1, h2, h3, h4⟩ := h
    go_enter Try.func62, Try.ntmps62
    go_wp2_with (first | (go_at_call 46; refine (l1in_yes _ _ _ _ (by omega) (by omega)).mono ?_; rintro e w' ⟨rfl, rfl⟩) | (go_at_call 46; refine (l1in_no _ _ _ _ (by omega)).mono ?_; rintro e w' ⟨rfl, rfl⟩) | fail)
    refine (make_spec_in _ _ _ HS.out hl).mono ?_
    rintro e w' ⟨p, q, o, rfl, hm, hb⟩
    have HM := Lib.hid hm
    clear hm
    have bz := Blk.below (g := w.heap.size) (t := 41) (cs := #[.int .i64 0, .int .i64 0]) (by repeat (first | exact Blk.newAt (by simp) | apply Blk.drewN | apply Blk.alloc)) hb (by simp <;> omega); obtain ⟨d0, d1, e0, e1, lz⟩ := blk2 bz; have hw := bl_behind (w := w) hb (by repeat' (first | (with_reducible exact Below.refl _ _) | (with_reducible assumption) | (with_reducible refine below_drewN ?_ _) | (with_reducible refine bl_alloc ?_ _) | (with_reducible refine bl_set ?_ ?_ _) | go_size | omega)); have HB := Lib.hid hw; clear hb bz hw
    go_wp2_with fail
    refine bodyPost_ret (v := .tuple #[.agg #[.int .i64 p, .int .i64 q], .bool o]) (by simp [results, Try.results62, go_sem, d0, d1]) rfl ?_
    have hb := HB.out
    exact ⟨p, q, o, rfl, HM.out, (by repeat' (first | (with_reducible exact Below.refl _ _) | (with_reducible assumption) | (with_reducible refine below_drewN ?_ _) | (with_reducible refine bl_alloc ?_ _) | (with_reducible refine bl_set ?_ ?_ _) | go_size | omega))⟩
  · rw [redF_out h]
    have HP := Lib.hid (fun e w' hb he => FrPost.mk (r := ((0, 0), false)) (w := w) (p := 0) (q := 0) (o := false) (e := e) (w' := w') rfl he hb)
    unfold gcdOk at h
    rcases (by omega : (t < -1152921504606846976 ∨ 1152921504606846976 < t) ∨ (-1152921504606846976 ≤ t ∧ t ≤ 1152921504606846976 ∧ (l < -1152921504606846976 ∨ 1152921504606846976 < l)) ∨ (-1152921504606846976 ≤ t ∧ t ≤ 1152921504606846976 ∧ l = 0)) with h1 | ⟨h1, h2, h3⟩ | ⟨h1, h2, rfl⟩
    all_goals
      clear h
      go_enter Try.func62, Try.ntmps62
      go_wp2_with (first | (go_at_call 46; refine (l1in_yes _ _ _ _ (by omega) (by omega)).mono ?_; rintro e w' ⟨rfl, rfl⟩) | (go_at_call 46; refine (l1in_no _ _ _ _ (by omega)).mono ?_; rintro e w' ⟨rfl, rfl⟩) | go_in)
      go_returns
      exact HP.out _ _ (by repeat' (first | (with_reducible exact Below.refl _ _) | (with_reducible assumption) | (with_reducible refine below_drewN ?_ _) | (with_reducible refine bl_alloc ?_ _) | (with_reducible refine bl_set ?_ ?_ _) | go_size | omega)) rfl





end Go.Proofs.Ytdpekaejklmomaa

/- Long numbers: LongCompare of both. No condition: contracts for the walks of the laws. -/
import Derived.Test.YtgjknnacfildiaaLgA
namespace Go.Proofs.Ytgjknnacfildiaa
open Go.ChangeShapes Go.WideShapes Go.ChangeAt Go.RowKit


theorem cmpgo_lt (x y : Int) (w : World) (h : x < y) : Calls Try.prog 20 #[.int .i64 x, .int .i64 y] w fun e w' => e = .returned (.int .i64 (-1)) ∧ w = w' := by
  go_enter Try.func20, Try.ntmps20
  go_wp2_with (first | go_in)
  go_ret
  exact ⟨rfl, rfl⟩
theorem cmpgo_gt (x y : Int) (w : World) (h : y < x) : Calls Try.prog 20 #[.int .i64 x, .int .i64 y] w fun e w' => e = .returned (.int .i64 1) ∧ w = w' := by
  go_enter Try.func20, Try.ntmps20
  go_wp2_with (first | go_in)
  go_ret
  exact ⟨rfl, rfl⟩
set_option maxHeartbeats 2000000 in
theorem cmp_impl {w : World} {b1 b2 : Nat} {v u : Value} {a b : Int} (h : RdR w b1 v (digs a)) (k : RdR w b2 u (digs b)) (a1 : 1 ≤ a) (a2 : a < pB 60) (k1 : 1 ≤ b) (k2 : b < pB 60) : Calls Try.prog 13 #[v, u] w fun e w' => e = .returned (.int .i64 (cmpV a b)) ∧ ∃ q, w' = w.drewN q := by
  have VA := Lib.hid (valid_impl h a1 a2)
  have VB := Lib.hid (valid_impl k k1 k2)
  obtain ⟨g, cap, rfl, -, -, hc, hlc, cA⟩ := h
  obtain ⟨g2, cap2, rfl, -, -, hc2, hlc2, cB⟩ := k
  have HC := Lib.hid (cmp_at a1 k1)
  have hla := (digs_len a (by omega) 60).2 a2
  have hlb := (digs_len b (by omega) 60).2 k2
  have hpa := digs_ne (n := a) (by omega)
  have hpb := digs_ne (n := b) (by omega)
  clear a1 a2 k1 k2
  generalize cmpV a b = cv at *
  generalize digs a = xs at *
  generalize digs b = ys at *
  generalize hn : xs.length = n at *
  generalize hm : ys.length = m at *
  have hni : (n : Int) ≤ 60 := by omega
  have hmi : (m : Int) ≤ 60 := by omega
  rcases Nat.lt_trichotomy n m with hlt | heq | hgt
  · have e : cv = -1 := HC.out.1 hlt
    subst e
    have hi : (n : Int) < (m : Int) := by omega
    clear cA cB HC
    go_enter Try.func13, Try.ntmps13
    go_wp2_with (first | (go_at_call 19; (first | (with_reducible refine Calls.mono VA.out ?_) | (with_reducible refine Calls.mono VB.out ?_)); rintro e w' ⟨rfl, rfl⟩) | (go_at_call 20; refine (cmpgo_lt _ _ _ (by omega)).mono ?_; rintro e w' ⟨rfl, rfl⟩))
    go_ret
    exact ⟨rfl, 0, rfl⟩
  · subst heq
    have hcv := HC.out.2.2 rfl
    clear HC
    go_enter Try.func13, Try.ntmps13
    go_wp2_with (first | (go_at_call 19; (first | (with_reducible refine Calls.mono VA.out ?_) | (with_reducible refine Calls.mono VB.out ?_)); rintro e w' ⟨rfl, rfl⟩))
    go_loopw [5] (fun i wr => ∃ (j : Nat) (q : Nat), i = .int .i64 ((j : Int) - 1) ∧ j ≤ n ∧ (∀ x, j ≤ x → x < n → xs.getD x 0 = ys.getD x 0) ∧ wr = w.drewN q) (fun i _ => ((RowKit.intOf i) + 1).toNat)
    case atStart => exact ⟨n, 0, rfl, Nat.le_refl _, fun x h1 h2 => by omega, rfl⟩
    case round =>
      obtain ⟨j, q, rfl, hj, heq, rfl⟩ := hrel
      rcases Nat.eq_zero_or_pos j with h0 | h0
      · subst h0
        have e : cv = 0 := hcv.2.2 (fun x hx => heq x (Nat.zero_le _) hx)
        subst e
        clear heq hcv cA cB
        go_wp2_with fail
        go_ret
        exact ⟨rfl, q, rfl⟩
      · obtain ⟨i, rfl⟩ : ∃ i, j = i + 1 := ⟨j - 1, by omega⟩
        have ca := cA i (by omega)
        have cb := cB i (by omega)
        have hii : ((i : Int)) < (n : Int) := by omega
        have e1 : ((i + 1 : Nat) : Int) - 1 = (i : Int) := by omega
        rw [e1]
        have hA := hcv.1 i (by omega) (fun x h1 h2 => heq x h1 h2)
        have hB := hcv.2.1 i (by omega) (fun x h1 h2 => heq x h1 h2)
        have hE : xs.getD i 0 = ys.getD i 0 → ∀ x, i ≤ x → x < n → xs.getD x 0 = ys.getD x 0 := fun h x h1 h2 => by
          rcases Nat.eq_or_lt_of_le h1 with h3 | h3
          · subst h3; exact h
          · exact heq x h3 h2
        have HE := Lib.hid hE
        clear hcv heq cA cB hE
        generalize hx0 : xs.getD i 0 = x at *
        generalize hy0 : ys.getD i 0 = y at *
        rcases Int.lt_trichotomy x y with hxy | hxy | hxy
        · have e := hA hxy
          subst e
          clear hA hB hx0 hy0 HE
          go_wp2_with fail
          go_quiet (fail)
          go_wp2_with fail
          go_quiet ((go_at_call 20; refine Calls.mono (cmpgo_lt _ _ _ (by omega)) ?_; rintro e w' ⟨rfl, rfl⟩; exact ⟨rfl, _, rfl⟩))
          go_wp2
          go_ret
          exact ⟨rfl, _, by first | rfl | exact World.drewN_drewN .. | (rw [World.drewN_drewN]; exact World.drewN_drewN ..)⟩
        · have HE2 := Lib.hid (HE.out hxy)
          subst hxy
          clear hA hB HE hx0 hy0
          go_wp2_with fail
          go_quiet (fail)
          go_wp2_with fail
          go_roundw
          case rel => exact ⟨i, _, rfl, by omega, HE2.out, (by first | rfl | exact World.drewN_drewN .. | (rw [World.drewN_drewN]; exact World.drewN_drewN ..))⟩
          case measure => simp [RowKit.intOf] <;> omega
        · have e := hB hxy
          subst e
          clear hA hB hx0 hy0 HE
          go_wp2_with fail
          go_quiet (fail)
          go_wp2_with fail
          go_quiet ((go_at_call 20; refine Calls.mono (cmpgo_gt _ _ _ (by omega)) ?_; rintro e w' ⟨rfl, rfl⟩; exact ⟨rfl, _, rfl⟩))
          go_wp2
          go_ret
          exact ⟨rfl, _, by first | rfl | exact World.drewN_drewN .. | (rw [World.drewN_drewN]; exact World.drewN_drewN ..)⟩
  · have e : cv = 1 := HC.out.2.1 hgt
    subst e
    have hi : (m : Int) < (n : Int) := by omega
    clear cA cB HC
    go_enter Try.func13, Try.ntmps13
    go_wp2_with (first | (go_at_call 19; (first | (with_reducible refine Calls.mono VA.out ?_) | (with_reducible refine Calls.mono VB.out ?_)); rintro e w' ⟨rfl, rfl⟩) | (go_at_call 20; refine (cmpgo_gt _ _ _ (by omega)).mono ?_; rintro e w' ⟨rfl, rfl⟩))
    go_ret
    exact ⟨rfl, 0, rfl⟩
set_option maxHeartbeats 2000000 in
theorem cmp_spec {w : World} {b1 b2 : Nat} {v u : Value} {a b : Int} (h : RdR w b1 v (digs a)) (k : RdR w b2 u (digs b)) (a1 : 1 ≤ a) (a2 : a < pB 60) (k1 : 1 ≤ b) (k2 : b < pB 60) : Calls Try.prog 9 #[v, u] w fun e w' => e = .returned (.int .i64 (cmpV a b)) ∧ ∃ q, w' = w.drewN q := by
  have VA := Lib.hid (valid_spec h a1 a2)
  have VB := Lib.hid (valid_spec k k1 k2)
  obtain ⟨g, cap, rfl, -, -, hc, hlc, cA⟩ := h
  obtain ⟨g2, cap2, rfl, -, -, hc2, hlc2, cB⟩ := k
  have HC := Lib.hid (cmp_at a1 k1)
  have hla := (digs_len a (by omega) 60).2 a2
  have hlb := (digs_len b (by omega) 60).2 k2
  have hpa := digs_ne (n := a) (by omega)
  have hpb := digs_ne (n := b) (by omega)
  clear a1 a2 k1 k2
  generalize cmpV a b = cv at *
  generalize digs a = xs at *
  generalize digs b = ys at *
  generalize hn : xs.length = n at *
  generalize hm : ys.length = m at *
  have hni : (n : Int) ≤ 60 := by omega
  have hmi : (m : Int) ≤ 60 := by omega
  rcases Nat.lt_trichotomy n m with hlt | heq | hgt
  · have e : cv = -1 := HC.out.1 hlt
    subst e
    have hi : (n : Int) < (m : Int) := by omega
    clear cA cB HC
    go_enter Try.func9, Try.ntmps9
    go_wp2_with (first | (go_at_call 17; (first | (with_reducible refine Calls.mono VA.out ?_) | (with_reducible refine Calls.mono VB.out ?_)); rintro e w' ⟨rfl, rfl⟩) | (go_at_call 20; refine (cmpgo_lt _ _ _ (by omega)).mono ?_; rintro e w' ⟨rfl, rfl⟩))
    go_ret
    exact ⟨rfl, 0, rfl⟩
  · subst heq
    have hcv := HC.out.2.2 rfl
    clear HC
    go_enter Try.func9, Try.ntmps9
    go_wp2_with (first | (go_at_call 17; (first | (with_reducible refine Calls.mono VA.out ?_) | (with_reducible refine Calls.mono VB.out ?_)); rintro e w' ⟨rfl, rfl⟩))
    go_loopw [5] (fun i wr => ∃ (j : Nat) (q : Nat), i = .int .i64 ((j : Int) - 1) ∧ j ≤ n ∧ (∀ x, j ≤ x → x < n → xs.getD x 0 = ys.getD x 0) ∧ wr = w.drewN q) (fun i _ => ((RowKit.intOf i) + 1).toNat)
    case atStart => exact ⟨n, 0, rfl, Nat.le_refl _, fun x h1 h2 => by omega, rfl⟩
    case round =>
      obtain ⟨j, q, rfl, hj, heq, rfl⟩ := hrel
      rcases Nat.eq_zero_or_pos j with h0 | h0
      · subst h0
        have e : cv = 0 := hcv.2.2 (fun x hx => heq x (Nat.zero_le _) hx)
        subst e
        clear heq hcv cA cB
        go_wp2_with fail
        go_ret
        exact ⟨rfl, q, rfl⟩
      · obtain ⟨i, rfl⟩ : ∃ i, j = i + 1 := ⟨j - 1, by omega⟩
        have ca := cA i (by omega)
        have cb := cB i (by omega)
        have hii : ((i : Int)) < (n : Int) := by omega
        have e1 : ((i + 1 : Nat) : Int) - 1 = (i : Int) := by omega
        rw [e1]
        have hA := hcv.1 i (by omega) (fun x h1 h2 => heq x h1 h2)
        have hB := hcv.2.1 i (by omega) (fun x h1 h2 => heq x h1 h2)
        have hE : xs.getD i 0 = ys.getD i 0 → ∀ x, i ≤ x → x < n → xs.getD x 0 = ys.getD x 0 := fun h x h1 h2 => by
          rcases Nat.eq_or_lt_of_le h1 with h3 | h3
          · subst h3; exact h
          · exact heq x h3 h2
        have HE := Lib.hid hE
        clear hcv heq cA cB hE
        generalize hx0 : xs.getD i 0 = x at *
        generalize hy0 : ys.getD i 0 = y at *
        rcases Int.lt_trichotomy x y with hxy | hxy | hxy
        · have e := hA hxy
          subst e
          clear hA hB hx0 hy0 HE
          go_wp2_with fail
          go_quiet (fail)
          go_wp2_with fail
          
          
          go_ret
          exact ⟨rfl, _, by first | rfl | exact World.drewN_drewN .. | (rw [World.drewN_drewN]; exact World.drewN_drewN ..)⟩
        · have HE2 := Lib.hid (HE.out hxy)
          subst hxy
          clear hA hB HE hx0 hy0
          go_wp2_with fail
          go_quiet (fail)
          go_wp2_with fail
          go_quiet (fail)
          go_wp2_with fail
          go_roundw
          case rel => exact ⟨i, _, rfl, by omega, HE2.out, (by first | rfl | exact World.drewN_drewN .. | (rw [World.drewN_drewN]; exact World.drewN_drewN ..))⟩
          case measure => simp [RowKit.intOf] <;> omega
        · have e := hB hxy
          subst e
          clear hA hB hx0 hy0 HE
          go_wp2_with fail
          go_quiet (fail)
          go_wp2_with fail
          go_quiet (fail)
          go_wp2_with fail
          go_ret
          exact ⟨rfl, _, by first | rfl | exact World.drewN_drewN .. | (rw [World.drewN_drewN]; exact World.drewN_drewN ..)⟩
  · have e : cv = 1 := HC.out.2.1 hgt
    subst e
    have hi : (m : Int) < (n : Int) := by omega
    clear cA cB HC
    go_enter Try.func9, Try.ntmps9
    go_wp2_with (first | (go_at_call 17; (first | (with_reducible refine Calls.mono VA.out ?_) | (with_reducible refine Calls.mono VB.out ?_)); rintro e w' ⟨rfl, rfl⟩) | (go_at_call 20; refine (cmpgo_gt _ _ _ (by omega)).mono ?_; rintro e w' ⟨rfl, rfl⟩))
    go_ret
    exact ⟨rfl, 0, rfl⟩
end Go.Proofs.Ytgjknnacfildiaa

/- SubStored, MulStored, DivStored of the program, where both numbers fit. No condition: contracts for the walks of the laws. -/
import Derived.Test.YtidnnnjjpjadlaaGreatDoorAd
import Derived.Test.YtidnnnjjpjadlaaGreatDoorSpan
import Derived.Test.YtidnnnjjpjadlaaGreatDoorMq
import Derived.Test.YtidnnnjjpjadlaaGreatDoorSqrt
namespace Go.Proofs.YtidnnnjjpjadlaaGreatDoor
open Go.ChangeShapes Go.WideShapes Go.ChangeAt Go.RowKit

theorem mul_absI {x y N M : Int} (h1 : -N ≤ x) (h2 : x ≤ N) (h3 : -M ≤ y) (h4 : y ≤ M) (hN : 0 ≤ N) (hM : 0 ≤ M) : -(N * M) ≤ x * y ∧ x * y ≤ N * M := by
  have k : x.natAbs * y.natAbs ≤ N.natAbs * M.natAbs := Nat.mul_le_mul (by omega) (by omega)
  rw [← Int.natAbs_mul, ← Int.natAbs_mul] at k
  have := Int.mul_nonneg hN hM
  omega
theorem p2_bd60 {k : Int} (h1 : 0 ≤ k) (h2 : k ≤ 60) : 1 ≤ (2 : Int) ^ k.toNat ∧ (2 : Int) ^ k.toNat ≤ 1152921504606846976 := by
  have hk : k.toNat ≤ 60 := by omega
  generalize k.toNat = m at hk
  have e1 : (2 : Nat) ^ m ≤ 2 ^ 60 := Nat.pow_le_pow_right (by omega) hk
  have e3 : 0 < (2 : Nat) ^ m := Nat.pow_pos (by decide)
  have e2 : ((2 ^ m : Nat) : Int) = (2 : Int) ^ m := by rw [Int.natCast_pow]; rfl
  omega
theorem p2_bd16 {k : Int} (h1 : 0 ≤ k) (h2 : k ≤ 16) : 1 ≤ (2 : Int) ^ k.toNat ∧ (2 : Int) ^ k.toNat ≤ 65536 := by
  have hk : k.toNat ≤ 16 := by omega
  generalize k.toNat = m at hk
  have e1 : (2 : Nat) ^ m ≤ 2 ^ 16 := Nat.pow_le_pow_right (by omega) hk
  have e3 : 0 < (2 : Nat) ^ m := Nat.pow_pos (by decide)
  have e2 : ((2 ^ m : Nat) : Int) = (2 : Int) ^ m := by rw [Int.natCast_pow]; rfl
  omega
set_option maxHeartbeats 2000000 in
theorem rsg_impl (n k : Int) (w : World) (h1 : -1152921504606846976 ≤ n) (h2 : n ≤ 1152921504606846976) (h3 : 0 ≤ k) (h4 : k ≤ 60) : Calls Tryz.prog 87 #[.int .i64 n, .int .i64 k] w fun e w' => e = .returned (.int .i64 (rnd n (2 ^ k.toNat))) ∧ w = w' := by
  obtain ⟨b1, b2⟩ := p2_bd60 h3 h4
  have hm := and_mask (n := n) (k := k.toNat) (by omega)
  have d1 := Int.emod_nonneg n (b := (2 : Int) ^ k.toNat) (by omega)
  have d2 := Int.emod_lt_of_pos n (b := (2 : Int) ^ k.toNat) (by omega)
  have ho := and_one (n / 2 ^ k.toNat)
  have hmd := Int.emod_def n ((2 : Int) ^ k.toNat)
  have hq := ediv_abs (a := n) (b := 2 ^ k.toNat) (M := 1152921504606846976) b1 h1 h2 (by omega)
  go_enter Tryz.func87, Tryz.ntmps87
  go_wp2_with (first | (go_at_call 121; refine (within_yes _ _ _ (by omega) (by omega) (by omega) (by omega)).mono ?_; rintro e w' ⟨rfl, rfl⟩) | (go_at_call 121; refine (within_no _ _ _ (by omega) (by omega) (by omega)).mono ?_; rintro e w' ⟨rfl, rfl⟩) | go_in)
  all_goals
    go_ret
    refine ⟨ret_int ?_, rfl⟩
    unfold rnd
    have hc := Int.mul_comm (n / 2 ^ k.toNat) (2 ^ k.toNat)
    clear hm hmd d1 d2
    obtain ⟨u, hu, hu2⟩ : ∃ u, bits .and .i64 (n / 2 ^ k.toNat) 1 = u ∧ u = n / 2 ^ k.toNat % 2 := ⟨_, rfl, ho⟩
    clear ho
    (try rw [hu] at *)
    (try simp only [beq_iff_eq, beq_eq_false_iff_ne, ne_eq] at *)
    generalize n / 2 ^ k.toNat = D at *
    generalize (2 : Int) ^ k.toNat = B at *
    split <;> omega
def dvX (q a b : Int) : Int := (if b < 0 then -a else a) * 2 ^ q.toNat
def dvY (b : Int) : Int := if b < 0 then -b else b
theorem dvX_bd {q a b : Int} (h1 : -268435456 ≤ a) (h2 : a ≤ 268435456) (h3 : 0 ≤ q) (h4 : q ≤ 16) : -17592186044416 ≤ dvX q a b ∧ dvX q a b ≤ 17592186044416 := by
  obtain ⟨u1, u2⟩ := p2_bd16 h3 h4
  unfold dvX
  have := mul_absI (x := if b < 0 then -a else a) (y := 2 ^ q.toNat) (N := 268435456) (M := 65536) (by split <;> omega) (by split <;> omega) (by omega) u2 (by omega) (by omega)
  omega
set_option maxHeartbeats 1000000 in
theorem clo_sub (_ _ a b : Int) (w : World) (h1 : -268435456 ≤ a) (h2 : a ≤ 268435456) (h3 : -268435456 ≤ b) (h4 : b ≤ 268435456) : Calls Tryz.prog 91 #[.int .i64 a, .int .i64 b] w fun e w' => e = .returned (.int .i64 (a - b)) ∧ w = w' := by
  go_enter Tryz.func91, Tryz.ntmps91
  go_wp2_with fail
  go_ret
  exact ⟨rfl, rfl⟩
set_option maxHeartbeats 1000000 in
theorem clo_mul (p q a b : Int) (w : World) (g : Nat) (hx : Blk w g 24 #[.int .i64 p, .int .i64 q]) (h1 : -268435456 ≤ a) (h2 : a ≤ 268435456) (h3 : -268435456 ≤ b) (h4 : b ≤ 268435456) (h5 : 0 ≤ q) (h6 : q ≤ 16) : Calls Tryz.prog 92 #[.int .i64 a, .int .i64 b, .pointer (some ⟨g, 0, none⟩)] w fun e w' => e = .returned (.int .i64 (rnd (a * b) (2 ^ q.toNat))) ∧ w = w' := by
  obtain ⟨k0, k1, -, -, l0⟩ := blk2 hx
  have hab := mul_absI h1 h2 h3 h4 (by omega) (by omega)
  clear hx
  go_enter Tryz.func92, Tryz.ntmps92
  go_wp2_with fail
  refine (rsg_impl (a * b) q _ (by omega) (by omega) h5 (by omega)).mono ?_
  rintro e w2 ⟨rfl, rfl⟩
  go_wp2_with fail
  go_ret
  exact ⟨rfl, rfl⟩
set_option maxHeartbeats 1000000 in
theorem clo_div (p q a b : Int) (w : World) (g : Nat) (hx : Blk w g 24 #[.int .i64 p, .int .i64 q]) (h1 : -268435456 ≤ a) (h2 : a ≤ 268435456) (h3 : -268435456 ≤ b) (h4 : b ≤ 268435456) (h5 : 0 ≤ q) (h6 : q ≤ 16) (h7 : b ≠ 0) : Calls Tryz.prog 93 #[.int .i64 a, .int .i64 b, .pointer (some ⟨g, 0, none⟩)] w fun e w' => e = .returned (.int .i64 (rnd (dvX q a b) (dvY b))) ∧ w = w' := by
  obtain ⟨k0, k1, -, -, l0⟩ := blk2 hx
  obtain ⟨u1, u2⟩ := p2_bd16 h5 h6
  have hbd := dvX_bd (b := b) h1 h2 h5 h6
  clear hx
  rcases Int.lt_or_le b 0 with hb | hb
  · have e1 : dvX q a b = -a * 2 ^ q.toNat := by unfold dvX; rw [if_pos hb]
    have e2 : dvY b = -b := by unfold dvY; rw [if_pos hb]
    rw [e1, e2]
    rw [e1] at hbd
    clear e1 e2
    go_enter Tryz.func93, Tryz.ntmps93
    go_wp2_with fail
    refine (rounddiv_any (-a * 2 ^ q.toNat) (-b) _ (by omega) (by omega) (by omega) (by omega)).mono ?_
    rintro e w2 ⟨rfl, rfl⟩
    go_wp2_with fail
    go_ret
    exact ⟨rfl, rfl⟩
  · have e1 : dvX q a b = a * 2 ^ q.toNat := by unfold dvX; rw [if_neg (by omega)]
    have e2 : dvY b = b := by unfold dvY; rw [if_neg (by omega)]
    rw [e1, e2]
    rw [e1] at hbd
    clear e1 e2
    go_enter Tryz.func93, Tryz.ntmps93
    go_wp2_with fail
    refine (rounddiv_any (a * 2 ^ q.toNat) b _ (by omega) (by omega) (by omega) (by omega)).mono ?_
    rintro e w2 ⟨rfl, rfl⟩
    go_wp2_with fail
    go_ret
    exact ⟨rfl, rfl⟩
structure InG (w : World) (p q a : Int) (g : Nat) (w' : World) : Prop where
  s : InS w p q a w'
  f : Blk w' g 24 #[.int .i64 p, .int .i64 q]
theorem InG.below {w w1 w2 : World} {p q a : Int} {g : Nat} (h : InG w p q a g w1) (hb : Below w1.heap.size w1 w2) : InG w p q a g w2 := ⟨h.s.below hb, h.f.below hb h.f.lt⟩
theorem InG.drew {w w1 : World} {p q a : Int} {g : Nat} (h : InG w p q a g w1) : InG w p q a g { w1 with drawn := w1.drawn + 1 } := ⟨h.s.drew, h.f.drew⟩
set_option maxHeartbeats 4000000 in
theorem join_sub (p q a b : Int) (w : World) (ha : fitB p q a = true) (hb : fitB p q b = true) : Calls Tryz.prog 89 #[.agg #[.int .i64 p, .int .i64 q, .int .i64 a], .int .i64 b, .func (.func 91) #[] #[]] w fun e w' => e = .returned (.tuple #[.int .i64 (cutV p q (a - b)), .bool (cutV p q (a - b) == a - b)]) ∧ Below w.heap.size w w' := by
  have FA := Lib.hid (fun w' => fits_impl p q a w')
  have FB := Lib.hid (fun w' => fits_impl p q b w')
  have hI : InS w p q a (w.alloc (.cells #[.int .i64 p, .int .i64 q, .int .i64 a] 98)) := ⟨(Below.refl _ _).alloc (Nat.le_refl _) _, Blk.new _ _ _⟩
  have HI := Lib.hid hI
  rw [ha] at FA
  rw [hb] at FB
  obtain ⟨⟨h1, h2, h3, h4⟩, a1, a2⟩ := fitB_bd ha
  obtain ⟨-, b1, b2⟩ := fitB_bd hb
  clear ha hb hI
  go_enter Tryz.func89, Tryz.ntmps89
  go_wp2_with fail
  refine (FA.out _).mono ?_
  rintro e w1 ⟨rfl, hb⟩
  have hI := HI.out.below hb
  obtain ⟨c0, c1, c2, lz⟩ := blk3 hI.2
  have HI := Lib.hid hI
  clear hb hI
  go_wp2_with fail
  refine (FB.out _).mono ?_
  rintro e w2 ⟨rfl, hb⟩
  have hI := HI.out.below hb
  clear c0 c1 c2 lz
  obtain ⟨c0, c1, c2, lz⟩ := blk3 hI.2
  have HI := Lib.hid hI
  clear hb hI
  go_wp2_with fail
  refine wp_region_quietC (C := InS w p q a) (by kernel_rfl) (by kernel_rfl) HI.out.drew ?_
  repeat
    (refine wpQuiet_step (fun K hK => ?_)
     go_simp
     first
       | (refine hK _ ?_; clear hK K)
       | (apply Exists.intro
          refine ⟨fun w' hw' => ?_, hK _ ?_⟩
          first
            | (go_at_call 91; with_reducible refine Calls.mono (clo_sub p q a b _ a1 a2 b1 b2) ?_; rintro e w2 ⟨rfl, rfl⟩; exact ⟨rfl, hw'⟩)
            | (go_at_call 82; with_reducible refine Calls.mono (cut_impl p q (a - b) _ h1 h2 h3 h4) ?_; rintro e w2 ⟨rfl, hb2⟩; exact ⟨rfl, hw'.below hb2⟩)
            | (obtain ⟨c0, c1, c2, lz⟩ := blk3 hw'.2; go_simp; rfl)
          clear hK K))
  refine wpQuiet_nil ?_
  intro w2 hw2
  go_wp2_with fail
  go_ret2
  exact ⟨rfl, hw2.1⟩
set_option maxHeartbeats 4000000 in
theorem join_mul (p q a b : Int) (w : World) (g : Nat) (hg : Blk w g 24 #[.int .i64 p, .int .i64 q]) (ha : fitB p q a = true) (hb : fitB p q b = true) : Calls Tryz.prog 89 #[.agg #[.int .i64 p, .int .i64 q, .int .i64 a], .int .i64 b, .func (.func 92) #[] #[.pointer (some ⟨g, 0, none⟩)]] w fun e w' => e = .returned (.tuple #[.int .i64 (cutV p q (rnd (a * b) (2 ^ q.toNat))), .bool (cutV p q (rnd (a * b) (2 ^ q.toNat)) == rnd (a * b) (2 ^ q.toNat))]) ∧ Below w.heap.size w w' := by
  have FA := Lib.hid (fun w' => fits_impl p q a w')
  have FB := Lib.hid (fun w' => fits_impl p q b w')
  have hI : InG w p q a g (w.alloc (.cells #[.int .i64 p, .int .i64 q, .int .i64 a] 98)) := ⟨⟨(Below.refl _ _).alloc (Nat.le_refl _) _, Blk.new _ _ _⟩, hg.alloc _⟩
  have HI := Lib.hid hI
  rw [ha] at FA
  rw [hb] at FB
  obtain ⟨⟨h1, h2, h3, h4⟩, a1, a2⟩ := fitB_bd ha
  obtain ⟨-, b1, b2⟩ := fitB_bd hb
  clear ha hb hI
  go_enter Tryz.func89, Tryz.ntmps89
  go_wp2_with fail
  refine (FA.out _).mono ?_
  rintro e w1 ⟨rfl, hb⟩
  have hI := HI.out.below hb
  obtain ⟨c0, c1, c2, lz⟩ := blk3 hI.s.2
  have HI := Lib.hid hI
  clear hb hI
  go_wp2_with fail
  refine (FB.out _).mono ?_
  rintro e w2 ⟨rfl, hb⟩
  have hI := HI.out.below hb
  clear c0 c1 c2 lz
  obtain ⟨c0, c1, c2, lz⟩ := blk3 hI.s.2
  have HI := Lib.hid hI
  clear hb hI
  go_wp2_with fail
  refine wp_region_quietC (C := InG w p q a g) (by kernel_rfl) (by kernel_rfl) HI.out.drew ?_
  repeat
    (refine wpQuiet_step (fun K hK => ?_)
     go_simp
     first
       | (refine hK _ ?_; clear hK K)
       | (apply Exists.intro
          refine ⟨fun w' hw' => ?_, hK _ ?_⟩
          first
            | (go_at_call 92; with_reducible refine Calls.mono (clo_mul p q a b _ g hw'.f a1 a2 b1 b2 h3 h4) ?_; rintro e w2 ⟨rfl, rfl⟩; exact ⟨rfl, hw'⟩)
            | (go_at_call 82; with_reducible refine Calls.mono (cut_impl p q (rnd (a * b) (2 ^ q.toNat)) _ h1 h2 h3 h4) ?_; rintro e w2 ⟨rfl, hb2⟩; exact ⟨rfl, hw'.below hb2⟩)
            | (obtain ⟨c0, c1, c2, lz⟩ := blk3 hw'.s.2; go_simp; rfl)
          clear hK K))
  refine wpQuiet_nil ?_
  intro w2 hw2
  go_wp2_with fail
  go_ret2
  exact ⟨rfl, hw2.s.1⟩
set_option maxHeartbeats 4000000 in
theorem join_div (p q a b : Int) (w : World) (g : Nat) (hg : Blk w g 24 #[.int .i64 p, .int .i64 q]) (ha : fitB p q a = true) (hb : fitB p q b = true) (h0 : b ≠ 0) : Calls Tryz.prog 89 #[.agg #[.int .i64 p, .int .i64 q, .int .i64 a], .int .i64 b, .func (.func 93) #[] #[.pointer (some ⟨g, 0, none⟩)]] w fun e w' => e = .returned (.tuple #[.int .i64 (cutV p q (rnd (dvX q a b) (dvY b))), .bool (cutV p q (rnd (dvX q a b) (dvY b)) == rnd (dvX q a b) (dvY b))]) ∧ Below w.heap.size w w' := by
  have FA := Lib.hid (fun w' => fits_impl p q a w')
  have FB := Lib.hid (fun w' => fits_impl p q b w')
  have hI : InG w p q a g (w.alloc (.cells #[.int .i64 p, .int .i64 q, .int .i64 a] 98)) := ⟨⟨(Below.refl _ _).alloc (Nat.le_refl _) _, Blk.new _ _ _⟩, hg.alloc _⟩
  have HI := Lib.hid hI
  rw [ha] at FA
  rw [hb] at FB
  obtain ⟨⟨h1, h2, h3, h4⟩, a1, a2⟩ := fitB_bd ha
  obtain ⟨-, b1, b2⟩ := fitB_bd hb
  clear ha hb hI
  go_enter Tryz.func89, Tryz.ntmps89
  go_wp2_with fail
  refine (FA.out _).mono ?_
  rintro e w1 ⟨rfl, hb⟩
  have hI := HI.out.below hb
  obtain ⟨c0, c1, c2, lz⟩ := blk3 hI.s.2
  have HI := Lib.hid hI
  clear hb hI
  go_wp2_with fail
  refine (FB.out _).mono ?_
  rintro e w2 ⟨rfl, hb⟩
  have hI := HI.out.below hb
  clear c0 c1 c2 lz
  obtain ⟨c0, c1, c2, lz⟩ := blk3 hI.s.2
  have HI := Lib.hid hI
  clear hb hI
  go_wp2_with fail
  refine wp_region_quietC (C := InG w p q a g) (by kernel_rfl) (by kernel_rfl) HI.out.drew ?_
  repeat
    (refine wpQuiet_step (fun K hK => ?_)
     go_simp
     first
       | (refine hK _ ?_; clear hK K)
       | (apply Exists.intro
          refine ⟨fun w' hw' => ?_, hK _ ?_⟩
          first
            | (go_at_call 93; with_reducible refine Calls.mono (clo_div p q a b _ g hw'.f a1 a2 b1 b2 h3 h4 h0) ?_; rintro e w2 ⟨rfl, rfl⟩; exact ⟨rfl, hw'⟩)
            | (go_at_call 82; with_reducible refine Calls.mono (cut_impl p q (rnd (dvX q a b) (dvY b)) _ h1 h2 h3 h4) ?_; rintro e w2 ⟨rfl, hb2⟩; exact ⟨rfl, hw'.below hb2⟩)
            | (obtain ⟨c0, c1, c2, lz⟩ := blk3 hw'.s.2; go_simp; rfl)
          clear hK K))
  refine wpQuiet_nil ?_
  intro w2 hw2
  go_wp2_with fail
  go_ret2
  exact ⟨rfl, hw2.s.1⟩
set_option maxHeartbeats 1000000 in
theorem sub_impl (p q a b : Int) (w : World) (ha : fitB p q a = true) (hb : fitB p q b = true) : Calls Tryz.prog 61 #[.agg #[.int .i64 p, .int .i64 q], .int .i64 a, .int .i64 b] w fun e w' => e = .returned (.tuple #[.int .i64 (cutV p q (a - b)), .bool (cutV p q (a - b) == a - b)]) ∧ Below w.heap.size w w' := by
  go_enter Tryz.func61, Tryz.ntmps61
  go_wp2_with fail
  refine (join_sub p q a b _ ha hb).mono ?_
  rintro e w1 ⟨rfl, hb⟩
  have HB := Lib.hid (unalloc hb)
  clear hb
  go_wp2_with fail
  go_ret2
  exact ⟨rfl, HB.out⟩
set_option maxHeartbeats 1000000 in
theorem mul_impl (p q a b : Int) (w : World) (ha : fitB p q a = true) (hb : fitB p q b = true) : Calls Tryz.prog 62 #[.agg #[.int .i64 p, .int .i64 q], .int .i64 a, .int .i64 b] w fun e w' => e = .returned (.tuple #[.int .i64 (cutV p q (rnd (a * b) (2 ^ q.toNat))), .bool (cutV p q (rnd (a * b) (2 ^ q.toNat)) == rnd (a * b) (2 ^ q.toNat))]) ∧ Below w.heap.size w w' := by
  go_enter Tryz.func62, Tryz.ntmps62
  go_wp2_with fail
  refine (join_mul p q a b _ _ (Blk.new _ _ _) ha hb).mono ?_
  rintro e w1 ⟨rfl, hb⟩
  have HB := Lib.hid (unalloc hb)
  clear hb
  go_wp2_with fail
  go_ret2
  exact ⟨rfl, HB.out⟩
set_option maxHeartbeats 1000000 in
theorem div_impl (p q a b : Int) (w : World) (ha : fitB p q a = true) (hb : fitB p q b = true) (h0 : b ≠ 0) : Calls Tryz.prog 63 #[.agg #[.int .i64 p, .int .i64 q], .int .i64 a, .int .i64 b] w fun e w' => e = .returned (.tuple #[.int .i64 (cutV p q (rnd (dvX q a b) (dvY b))), .bool (cutV p q (rnd (dvX q a b) (dvY b)) == rnd (dvX q a b) (dvY b))]) ∧ Below w.heap.size w w' := by
  have h0b : (b == 0) = false := beq_eq_false_iff_ne.2 h0
  go_enter Tryz.func63, Tryz.ntmps63
  go_wp2_with fail
  refine (join_div p q a b _ _ (Blk.new _ _ _) ha hb h0).mono ?_
  rintro e w1 ⟨rfl, hb⟩
  have HB := Lib.hid (unalloc hb)
  clear hb
  go_wp2_with fail
  go_ret2
  exact ⟨rfl, HB.out⟩
end Go.Proofs.YtidnnnjjpjadlaaGreatDoor

/- SubStored, MulStored, DivStored of the reference; SqrtStored, WholeOf of both; OneOf. No condition: contracts for the walks of the laws. -/
namespace Go.Proofs.YtidnnnjjpjadlaaGreatDoor
open Go.ChangeShapes Go.WideShapes Go.ChangeAt Go.RowKit

noncomputable def isq (n : Int) : Int := Classical.epsilon (SqIs n)
theorem isq_eq {n r : Int} (h : SqIs n r) : r = isq n := h.only (Classical.epsilon_spec (p := SqIs n) ⟨r, h⟩)
structure InX (w : World) (p q : Int) (w' : World) : Prop where
  bel : Below w.heap.size w w'
  f : Blk w' w.heap.size 24 #[.int .i64 p, .int .i64 q]
theorem InX.below {w w1 w2 : World} {p q : Int} (h : InX w p q w1) (hb : Below w1.heap.size w1 w2) : InX w p q w2 := ⟨bl_behind hb h.bel, h.f.below hb h.f.lt⟩
theorem InX.drew {w w1 : World} {p q : Int} (h : InX w p q w1) : InX w p q { w1 with drawn := w1.drawn + 1 } := ⟨h.bel.drew, h.f.drew⟩
set_option maxHeartbeats 1000000 in
theorem b6_yes (p q a b : Int) (w : World) (ha : fitB p q a = true) (hb : fitB p q b = true) : Calls Tryz.prog 66 #[.agg #[.int .i64 p, .int .i64 q], .int .i64 a, .int .i64 b] w fun e w' => e = .returned (.bool true) ∧ Below w.heap.size w w' := by
  have FA := Lib.hid (fun w' => fits_spec p q a w')
  have FB := Lib.hid (fun w' => fits_spec p q b w')
  rw [ha] at FA
  rw [hb] at FB
  clear ha hb
  go_enter Tryz.func66, Tryz.ntmps66
  go_wp2_with fail
  refine (FA.out _).mono ?_
  rintro e w1 ⟨rfl, hb⟩
  have bx := (Blk.new w 24 #[.int .i64 p, .int .i64 q]).below hb (by simp)
  obtain ⟨k0, k1, f0, f1, l0⟩ := blk2 bx
  have HB := Lib.hid (unalloc hb)
  clear hb bx
  go_wp2_with fail
  refine (FB.out _).mono ?_
  rintro e w2 ⟨rfl, hb⟩
  have HB2 := Lib.hid (bl_behind hb HB.out)
  clear hb
  go_wp2_with fail
  go_ret
  exact ⟨rfl, HB2.out⟩
set_option maxHeartbeats 4000000 in
theorem sub_spec (p q a b : Int) (w : World) (ha : fitB p q a = true) (hb : fitB p q b = true) : Calls Tryz.prog 31 #[.agg #[.int .i64 p, .int .i64 q], .int .i64 a, .int .i64 b] w fun e w' => e = .returned (.tuple #[.int .i64 (cutV p q (a - b)), .bool (cutV p q (a - b) == a - b)]) ∧ Below w.heap.size w w' := by
  have B6 := Lib.hid (fun w' => b6_yes p q a b w' ha hb)
  obtain ⟨⟨h1, h2, h3, h4⟩, a1, a2⟩ := fitB_bd ha
  obtain ⟨-, b1, b2⟩ := fitB_bd hb
  clear ha hb
  go_enter Tryz.func31, Tryz.ntmps31
  go_wp2_with fail
  refine (B6.out _).mono ?_
  rintro e w1 ⟨rfl, hb⟩
  have hI : InX w p q w1 := ⟨unalloc hb, (Blk.new w 24 #[.int .i64 p, .int .i64 q]).below hb (by simp)⟩
  obtain ⟨k0, k1, f0, f1, l0⟩ := blk2 hI.f
  have HI := Lib.hid hI
  clear hb hI
  go_wp2_with fail
  refine (cut_spec p q (a - b) _ h1 h2 h3 h4).mono ?_
  rintro e w2 ⟨rfl, hb⟩
  have HB2 := Lib.hid (bl_behind hb HI.out.bel)
  clear hb
  go_wp2_with fail
  go_ret2
  exact ⟨rfl, HB2.out⟩
set_option maxHeartbeats 4000000 in
theorem mul_spec (p q a b : Int) (w : World) (ha : fitB p q a = true) (hb : fitB p q b = true) : Calls Tryz.prog 32 #[.agg #[.int .i64 p, .int .i64 q], .int .i64 a, .int .i64 b] w fun e w' => e = .returned (.tuple #[.int .i64 (cutV p q (rnd (a * b) (2 ^ q.toNat))), .bool (cutV p q (rnd (a * b) (2 ^ q.toNat)) == rnd (a * b) (2 ^ q.toNat))]) ∧ Below w.heap.size w w' := by
  have B6 := Lib.hid (fun w' => b6_yes p q a b w' ha hb)
  obtain ⟨⟨h1, h2, h3, h4⟩, a1, a2⟩ := fitB_bd ha
  obtain ⟨-, b1, b2⟩ := fitB_bd hb
  obtain ⟨u1, u2⟩ := p2_bd16 h3 h4
  have hab := mul_absI a1 a2 b1 b2 (by omega) (by omega)
  have hw1 : IntKind.i64.wrap (a * b) = a * b := by rw [IntKind.wrap_i64]; omega
  have hw2 : IntKind.i64.wrap (2 ^ q.toNat) = 2 ^ q.toNat := by rw [IntKind.wrap_i64]; omega
  clear ha hb
  go_enter Tryz.func32, Tryz.ntmps32
  go_wp2_with fail
  refine (B6.out _).mono ?_
  rintro e w1 ⟨rfl, hb⟩
  have hI : InX w p q w1 := ⟨unalloc hb, (Blk.new w 24 #[.int .i64 p, .int .i64 q]).below hb (by simp)⟩
  obtain ⟨k0, k1, f0, f1, l0⟩ := blk2 hI.f
  have HI := Lib.hid hI
  clear hb hI
  go_wp2_with fail
  refine wp_region_quietC (C := InX w p q) (by kernel_rfl) (by kernel_rfl) HI.out.drew ?_
  repeat
    (refine wpQuiet_step (fun K hK => ?_)
     go_simp
     first
       | (refine hK _ ?_; clear hK K)
       | (apply Exists.intro
          refine ⟨fun w' hw' => ?_, hK _ ?_⟩
          first
            | (go_at_call 67; with_reducible refine Calls.mono (l1round_any (a * b) (2 ^ q.toNat) _ (by omega) (by omega) (by omega) (by omega)) ?_; rintro e w2 ⟨rfl, rfl⟩; exact ⟨rfl, hw'⟩)
            | (go_at_call 36; with_reducible refine Calls.mono (cut_spec p q (rnd (a * b) (2 ^ q.toNat)) _ h1 h2 h3 h4) ?_; rintro e w2 ⟨rfl, hb2⟩; exact ⟨rfl, hw'.below hb2⟩)
            | (obtain ⟨c0, c1, -, -, lz⟩ := blk2 hw'.f; go_simp; rfl)
          clear hK K))
  refine wpQuiet_nil ?_
  intro w2 hw2
  go_wp2_with fail
  go_ret2
  exact ⟨rfl, hw2.bel⟩
set_option maxHeartbeats 4000000 in
theorem div_spec (p q a b : Int) (w : World) (ha : fitB p q a = true) (hb : fitB p q b = true) (h0 : b ≠ 0) : Calls Tryz.prog 33 #[.agg #[.int .i64 p, .int .i64 q], .int .i64 a, .int .i64 b] w fun e w' => e = .returned (.tuple #[.int .i64 (cutV p q (rnd (dvX q a b) (dvY b))), .bool (cutV p q (rnd (dvX q a b) (dvY b)) == rnd (dvX q a b) (dvY b))]) ∧ Below w.heap.size w w' := by
  have B6 := Lib.hid (fun w' => b6_yes p q a b w' ha hb)
  obtain ⟨⟨h1, h2, h3, h4⟩, a1, a2⟩ := fitB_bd ha
  obtain ⟨-, b1, b2⟩ := fitB_bd hb
  have h0b : (b == 0) = false := beq_eq_false_iff_ne.2 h0
  have hbd := dvX_bd (b := b) a1 a2 h3 h4
  clear ha hb
  rcases Int.lt_or_le b 0 with hlt | hge
  · have e1 : dvX q a b = -a * 2 ^ q.toNat := by unfold dvX; rw [if_pos hlt]
    have e2 : dvY b = -b := by unfold dvY; rw [if_pos hlt]
    rw [e1, e2]
    rw [e1] at hbd
    have hw1 : IntKind.i64.wrap (-a * 2 ^ q.toNat) = -a * 2 ^ q.toNat := by rw [IntKind.wrap_i64]; omega
    clear e1 e2
    go_enter Tryz.func33, Tryz.ntmps33
    go_wp2_with fail
    refine (B6.out _).mono ?_
    rintro e w1 ⟨rfl, hb⟩
    have hI : InX w p q w1 := ⟨unalloc hb, (Blk.new w 24 #[.int .i64 p, .int .i64 q]).below hb (by simp)⟩
    obtain ⟨k0, k1, f0, f1, l0⟩ := blk2 hI.f
    have HI := Lib.hid hI
    clear hb hI
    go_wp2_with fail
    refine wp_region_quietC (C := InX w p q) (by kernel_rfl) (by kernel_rfl) HI.out.drew ?_
    repeat
      (refine wpQuiet_step (fun K hK => ?_)
       go_simp
       first
         | (refine hK _ ?_; clear hK K)
         | (apply Exists.intro
            refine ⟨fun w' hw' => ?_, hK _ ?_⟩
            first
              | (go_at_call 67; with_reducible refine Calls.mono (l1round_any (-a * 2 ^ q.toNat) (-b) _ (by omega) (by omega) (by omega) (by omega)) ?_; rintro e w2 ⟨rfl, rfl⟩; exact ⟨rfl, hw'⟩)
              | (go_at_call 36; with_reducible refine Calls.mono (cut_spec p q (rnd (-a * 2 ^ q.toNat) (-b)) _ h1 h2 h3 h4) ?_; rintro e w2 ⟨rfl, hb2⟩; exact ⟨rfl, hw'.below hb2⟩)
              | (obtain ⟨c0, c1, -, -, lz⟩ := blk2 hw'.f; go_simp; rfl)
            clear hK K))
    refine wpQuiet_nil ?_
    intro w2 hw2
    go_wp2_with fail
    go_ret2
    exact ⟨rfl, hw2.bel⟩
  · have e1 : dvX q a b = a * 2 ^ q.toNat := by unfold dvX; rw [if_neg (by omega)]
    have e2 : dvY b = b := by unfold dvY; rw [if_neg (by omega)]
    rw [e1, e2]
    rw [e1] at hbd
    have hw1 : IntKind.i64.wrap (a * 2 ^ q.toNat) = a * 2 ^ q.toNat := by rw [IntKind.wrap_i64]; omega
    clear e1 e2
    go_enter Tryz.func33, Tryz.ntmps33
    go_wp2_with fail
    refine (B6.out _).mono ?_
    rintro e w1 ⟨rfl, hb⟩
    have hI : InX w p q w1 := ⟨unalloc hb, (Blk.new w 24 #[.int .i64 p, .int .i64 q]).below hb (by simp)⟩
    obtain ⟨k0, k1, f0, f1, l0⟩ := blk2 hI.f
    have HI := Lib.hid hI
    clear hb hI
    go_wp2_with fail
    refine wp_region_quietC (C := InX w p q) (by kernel_rfl) (by kernel_rfl) HI.out.drew ?_
    repeat
      (refine wpQuiet_step (fun K hK => ?_)
       go_simp
       first
         | (refine hK _ ?_; clear hK K)
         | (apply Exists.intro
            refine ⟨fun w' hw' => ?_, hK _ ?_⟩
            first
              | (go_at_call 67; with_reducible refine Calls.mono (l1round_any (a * 2 ^ q.toNat) (b) _ (by omega) (by omega) (by omega) (by omega)) ?_; rintro e w2 ⟨rfl, rfl⟩; exact ⟨rfl, hw'⟩)
              | (go_at_call 36; with_reducible refine Calls.mono (cut_spec p q (rnd (a * 2 ^ q.toNat) b) _ h1 h2 h3 h4) ?_; rintro e w2 ⟨rfl, hb2⟩; exact ⟨rfl, hw'.below hb2⟩)
              | (obtain ⟨c0, c1, -, -, lz⟩ := blk2 hw'.f; go_simp; rfl)
            clear hK K))
    refine wpQuiet_nil ?_
    intro w2 hw2
    go_wp2_with fail
    go_ret2
    exact ⟨rfl, hw2.bel⟩
set_option maxHeartbeats 2000000 in
theorem sq_impl_neg (p q a : Int) (w : World) (ha : fitB p q a = true) (h0 : a < 0) : Calls Tryz.prog 80 #[.agg #[.int .i64 p, .int .i64 q], .int .i64 a] w fun e w' => e = .returned (.tuple #[.int .i64 0, .bool false]) ∧ Below w.heap.size w w' := by
  have FA := Lib.hid (fun w' => fits_impl p q a w')
  rw [ha] at FA
  clear ha
  go_enter Tryz.func80, Tryz.ntmps80
  go_wp2_with fail
  refine (FA.out _).mono ?_
  rintro e w1 ⟨rfl, hb⟩
  have bx := (Blk.new w 24 #[.int .i64 p, .int .i64 q]).below hb (by simp)
  obtain ⟨k0, k1, f0, f1, l0⟩ := blk2 bx
  have HB := Lib.hid (unalloc hb)
  clear hb bx
  go_wp2_with fail
  go_ret2
  exact ⟨rfl, HB.out⟩
set_option maxHeartbeats 2000000 in
theorem sq_impl_pos (p q a : Int) (w : World) (ha : fitB p q a = true) (h0 : 0 ≤ a) : Calls Tryz.prog 80 #[.agg #[.int .i64 p, .int .i64 q], .int .i64 a] w fun e w' => e = .returned (.tuple #[.int .i64 (isq (a * 2 ^ q.toNat)), .bool true]) ∧ Below w.heap.size w w' := by
  have FA := Lib.hid (fun w' => fits_impl p q a w')
  obtain ⟨⟨h1, h2, h3, h4⟩, a1, a2⟩ := fitB_bd ha
  obtain ⟨u1, u2⟩ := p2_bd16 h3 h4
  have hm := mul_absI (x := a) (y := 2 ^ q.toNat) (N := 268435456) (M := 65536) (by omega) (by omega) (by omega) u2 (by omega) (by omega)
  have hm0 : 0 ≤ a * 2 ^ q.toNat := Int.mul_nonneg h0 (by omega)
  rw [ha] at FA
  clear ha
  go_enter Tryz.func80, Tryz.ntmps80
  go_wp2_with fail
  refine (FA.out _).mono ?_
  rintro e w1 ⟨rfl, hb⟩
  have bx := (Blk.new w 24 #[.int .i64 p, .int .i64 q]).below hb (by simp)
  obtain ⟨k0, k1, f0, f1, l0⟩ := blk2 bx
  have HB := Lib.hid (unalloc hb)
  clear hb bx
  go_wp2_with fail
  refine (sqrt_impl (a * 2 ^ q.toNat) _ (by omega) (by omega)).mono ?_
  rintro e w2 ⟨⟨r, rfl, hr⟩, rfl⟩
  have e := isq_eq hr
  subst e
  clear hr
  go_wp2_with fail
  go_ret2
  exact ⟨rfl, HB.out⟩
set_option maxHeartbeats 2000000 in
theorem sq_spec_pos (p q a : Int) (w : World) (ha : fitB p q a = true) (h0 : 0 ≤ a) : Calls Tryz.prog 34 #[.agg #[.int .i64 p, .int .i64 q], .int .i64 a] w fun e w' => e = .returned (.tuple #[.int .i64 (isq (a * 2 ^ q.toNat)), .bool true]) ∧ Below w.heap.size w w' := by
  have FA := Lib.hid (fun w' => fits_spec p q a w')
  obtain ⟨⟨h1, h2, h3, h4⟩, a1, a2⟩ := fitB_bd ha
  obtain ⟨u1, u2⟩ := p2_bd16 h3 h4
  have hm := mul_absI (x := a) (y := 2 ^ q.toNat) (N := 268435456) (M := 65536) (by omega) (by omega) (by omega) u2 (by omega) (by omega)
  have hm0 : 0 ≤ a * 2 ^ q.toNat := Int.mul_nonneg h0 (by omega)
  rw [ha] at FA
  clear ha
  go_enter Tryz.func34, Tryz.ntmps34
  go_wp2_with fail
  refine (FA.out _).mono ?_
  rintro e w1 ⟨rfl, hb⟩
  have bx := (Blk.new w 24 #[.int .i64 p, .int .i64 q]).below hb (by simp)
  obtain ⟨k0, k1, f0, f1, l0⟩ := blk2 bx
  have HB := Lib.hid (unalloc hb)
  clear hb bx
  go_wp2_with fail
  refine (l2sqrt_any (a * 2 ^ q.toNat) _ (by omega) (by omega)).mono ?_
  rintro e w2 ⟨⟨r, rfl, hr⟩, rfl⟩
  have e := isq_eq hr
  subst e
  clear hr
  go_wp2_with fail
  go_ret2
  exact ⟨rfl, HB.out⟩
set_option maxHeartbeats 2000000 in
theorem wh_impl (p q a : Int) (w : World) (ha : fitB p q a = true) : Calls Tryz.prog 83 #[.agg #[.int .i64 p, .int .i64 q], .int .i64 a] w fun e w' => e = .returned (.int .i64 (rnd a (2 ^ q.toNat))) ∧ Below w.heap.size w w' := by
  have FA := Lib.hid (fun w' => fits_impl p q a w')
  obtain ⟨⟨h1, h2, h3, h4⟩, a1, a2⟩ := fitB_bd ha
  obtain ⟨u1, u2⟩ := p2_bd16 h3 h4
  rw [ha] at FA
  clear ha
  go_enter Tryz.func83, Tryz.ntmps83
  go_wp2_with fail
  refine (FA.out _).mono ?_
  rintro e w1 ⟨rfl, hb⟩
  have bx := (Blk.new w 24 #[.int .i64 p, .int .i64 q]).below hb (by simp)
  obtain ⟨k0, k1, f0, f1, l0⟩ := blk2 bx
  have HB := Lib.hid (unalloc hb)
  clear hb bx
  go_wp2_with fail
  refine (rsg_impl a q _ (by omega) (by omega) (by omega) (by omega)).mono ?_
  rintro e w2 ⟨rfl, rfl⟩
  go_wp2_with fail
  go_ret
  exact ⟨rfl, HB.out⟩
set_option maxHeartbeats 2000000 in
theorem wh_spec (p q a : Int) (w : World) (ha : fitB p q a = true) : Calls Tryz.prog 37 #[.agg #[.int .i64 p, .int .i64 q], .int .i64 a] w fun e w' => e = .returned (.int .i64 (rnd a (2 ^ q.toNat))) ∧ Below w.heap.size w w' := by
  have FA := Lib.hid (fun w' => fits_spec p q a w')
  obtain ⟨⟨h1, h2, h3, h4⟩, a1, a2⟩ := fitB_bd ha
  obtain ⟨u1, u2⟩ := p2_bd16 h3 h4
  rw [ha] at FA
  clear ha
  go_enter Tryz.func37, Tryz.ntmps37
  go_wp2_with fail
  refine (FA.out _).mono ?_
  rintro e w1 ⟨rfl, hb⟩
  have bx := (Blk.new w 24 #[.int .i64 p, .int .i64 q]).below hb (by simp)
  obtain ⟨k0, k1, f0, f1, l0⟩ := blk2 bx
  have HB := Lib.hid (unalloc hb)
  clear hb bx
  go_wp2_with fail
  refine (l1round_any a (2 ^ q.toNat) _ (by omega) (by omega) (by omega) (by omega)).mono ?_
  rintro e w2 ⟨rfl, rfl⟩
  go_wp2_with fail
  go_ret
  exact ⟨rfl, HB.out⟩
set_option maxHeartbeats 1000000 in
theorem one_impl (p q : Int) (w : World) (h1 : 1 ≤ p) (h2 : p ≤ 12) (h3 : 0 ≤ q) (h4 : q ≤ 16) : Calls Tryz.prog 84 #[.agg #[.int .i64 p, .int .i64 q]] w fun e w' => e = .returned (.int .i64 (2 ^ q.toNat)) ∧ Below w.heap.size w w' := by
  have FV := Lib.hid (fun w' => fmvb_impl (fmtB_in h1 h2 h3 h4).symm w')
  obtain ⟨u1, u2⟩ := p2_bd16 h3 h4
  go_enter Tryz.func84, Tryz.ntmps84
  go_wp2_with fail
  refine (FV.out _).mono ?_
  rintro e w1 ⟨rfl, m, rfl⟩
  go_wp2_with fail
  go_ret
  exact ⟨rfl, (by repeat' (first | (with_reducible exact Below.refl _ _) | (with_reducible assumption) | (with_reducible refine below_drewN ?_ _) | (with_reducible refine Below.drew ?_) | (with_reducible refine bl_alloc ?_ _) | (with_reducible refine bl_set ?_ ?_ _) | go_size | omega))⟩
end Go.Proofs.YtidnnnjjpjadlaaGreatDoor

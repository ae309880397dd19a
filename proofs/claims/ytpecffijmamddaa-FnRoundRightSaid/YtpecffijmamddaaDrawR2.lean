/- The drawing functions of the law on proved quotients. No condition: contracts for the walks of the laws. -/
import Derived.Test.YtpecffijmamddaaDrawR
import Derived.Test.YtpecffijmamddaaRr
namespace Go.Proofs.Ytpecffijmamddaa
open Go.ChangeShapes Go.WideShapes Go.ChangeAt Go.RowKit


set_option maxHeartbeats 1000000 in
theorem srd_any (a b : Int) (w : World) (h1 : -1152921504606846976 ≤ a) (h2 : a ≤ 1152921504606846976) (h3 : 1 ≤ b) (h4 : b ≤ 9223372036854775807) : Calls Try.prog 38 #[.int .i64 a, .int .i64 b] w fun e w' => e = .returned (.int .i64 (if b ≤ 1152921504606846976 then rnd a b else 0)) ∧ w = w' := by
  by_cases hb : b ≤ 1152921504606846976
  · rw [if_pos hb]
    go_enter Try.func38, Try.ntmps38
    go_wp2_with (first | (go_at_call 33; refine (l1in_yes _ _ _ _ (by omega) (by omega)).mono ?_; rintro e w' ⟨rfl, rfl⟩) | (go_at_call 33; refine (l1in_no _ _ _ _ (by omega)).mono ?_; rintro e w' ⟨rfl, rfl⟩) | (go_at_call 46; refine (l1round_any _ _ _ (by omega) (by omega) (by omega) (by omega)).mono ?_; rintro e w' ⟨rfl, rfl⟩) | go_in)
    go_ret
    exact ⟨rfl, rfl⟩
  · rw [if_neg hb]
    go_enter Try.func38, Try.ntmps38
    go_wp2_with (first | (go_at_call 33; refine (l1in_yes _ _ _ _ (by omega) (by omega)).mono ?_; rintro e w' ⟨rfl, rfl⟩) | (go_at_call 33; refine (l1in_no _ _ _ _ (by omega)).mono ?_; rintro e w' ⟨rfl, rfl⟩) | (go_at_call 46; refine (l1round_any _ _ _ (by omega) (by omega) (by omega) (by omega)).mono ?_; rintro e w' ⟨rfl, rfl⟩) | go_in)
    go_ret
    exact ⟨rfl, rfl⟩
set_option maxHeartbeats 4000000 in
theorem drawrounddiv_any {w : World} {a : Option Addr} {len cap : Nat} {zs : List Int} (hrow : IsRow .u8 w a len cap zs) :
    Calls Try.prog 37 #[.slice a len cap] w (TwoPost (-1152921504606846977) 9223372036854775807 0 1152921504606846977 w) := by
  go_enter Try.func37, Try.ntmps37
  go_wp2_with fail
  refine (open_any hrow).mono ?_
  rintro e w0 ⟨g, rfl, R0⟩
  go_wp2_with fail
  refine (pick_any R0 (by omega) (by omega) (by omega)).mono ?_
  rintro e w1 ⟨x1, hx10, hx11, rfl, R1, G1⟩
  by_cases hx : x1 = 0
  · subst hx
    go_wp2_with fail
    refine (pick_any R1 (by omega) (by omega) (by omega)).mono ?_
    rintro e w2 ⟨x2, hx20, hx21, rfl, R2, G2⟩
    go_wp2_with fail
    refine (pick_any R2 (by omega) (by omega) (by omega)).mono ?_
    rintro e w3 ⟨x3, hx30, hx31, rfl, R3, G3⟩
    have p1 := Int.mul_le_mul_of_nonneg_left (show x3 - 4 ≤ 4 by omega) (show 0 ≤ 2 + 2 * x2 by omega)
    have p2 := Int.mul_le_mul_of_nonneg_left (show -4 ≤ x3 - 4 by omega) (show 0 ≤ 2 + 2 * x2 by omega)
    have HR := Lib.hid R3
    clear R0 R1 R2 R3 G1 G2 G3 hrow
    go_wp2_with fail
    go_ret2
    exact ⟨(2 + 2 * x2) / 2 + (2 + 2 * x2) * (x3 - 4), 2 + 2 * x2, by omega, by omega, by omega, by omega, rfl, HR.out.below⟩
  · have hZ := isRow_below hrow R1.below
    have HB := Lib.hid R1.below
    clear R0 R1 G1 hrow
    go_wp2_with fail
    refine (drawfloordiv_any hZ).mono ?_
    rintro e w2 ⟨a, b, a0, a1, b0, b1, rfl, hb⟩
    have hw := HB.out.trans (hb.mono HB.out.size)
    have HW := Lib.hid hw
    clear hb hw hZ
    go_wp2_with fail
    go_ret2
    exact ⟨a, b, a0, a1, b0, b1, rfl, HW.out⟩
theorem rr_rnd {a b q : Int} (h : rrOk a b q) : rrB a b q = decide (rnd a b = q) := by
  rw [rr_in h, decide_eq_decide]
  have hb : 1 ≤ b := h.2.2.1
  have d := ediv_bd (a := a) (show 0 < b by omega)
  unfold rnd
  generalize a / b = e at *
  have hq : q * b = e * b + (q - e) * b := by rw [← Int.add_mul]; congr 1; omega
  generalize e * b = p at *
  rcases (by omega : q - e = 0 ∨ q - e = 1 ∨ 2 ≤ q - e ∨ q - e ≤ -1) with ht | ht | ht | ht
  · rw [ht, Int.zero_mul] at hq
    rw [hq]
    split <;> omega
  · rw [ht, Int.one_mul] at hq
    rw [hq]
    split <;> omega
  · have := Int.mul_le_mul_of_nonneg_right ht (show 0 ≤ b by omega)
    rw [hq]
    split <;> omega
  · have := Int.mul_le_mul_of_nonneg_right ht (show 0 ≤ b by omega)
    rw [hq]
    split <;> omega
theorem rnd_abs {a b M : Int} (hb : 1 ≤ b) (h1 : -M ≤ a) (h2 : a ≤ M) (hM : 0 ≤ M) : -M ≤ rnd a b ∧ rnd a b ≤ M + 1 := by
  have := ediv_abs hb h1 h2 hM
  unfold rnd
  split <;> omega
def RrPost (w : World) (e : Ending) (w' : World) : Prop := ∃ a b q : Int, -4398046511105 ≤ a ∧ a ≤ 4398046511105 ∧ 0 ≤ b ∧ b ≤ 1152921504606846977 ∧ -5000000000000 ≤ q ∧ q ≤ 5000000000000 ∧ e = .returned (.tuple #[.int .i64 a, .int .i64 b, .int .i64 q]) ∧ Below w.heap.size w w'
set_option maxRecDepth 100000 in
set_option maxHeartbeats 4000000 in
theorem drawroundright_any {w : World} {a : Option Addr} {len cap : Nat} {zs : List Int} (hrow : IsRow .u8 w a len cap zs) :
    Calls Try.prog 13 #[.slice a len cap] w (RrPost w) := by
  go_enter Try.func13, Try.ntmps13
  go_wp2_with fail
  refine (open_base (Below.refl _ w) hrow).mono ?_
  rintro e w1 ⟨rfl, R0, hb1⟩
  have hZ := isRow_below hrow hb1
  go_wp2_with fail
  refine (drawrounddiv_any hZ).mono ?_
  rintro e w2 ⟨a, b, a0, a1, b0, b1, rfl, hb2⟩
  have R1 := R0.behind hb2
  clear R0 hb1 hb2 hrow hZ
  obtain ⟨m, hm, hm1, hm2⟩ : ∃ m, max 1 b = m ∧ 1 ≤ m ∧ m ≤ 1152921504606846977 := ⟨max 1 b, rfl, by omega, by omega⟩
  have hmm : (b < 1 ∧ m = 1) ∨ (1 ≤ b ∧ m = b) := by omega
  obtain ⟨A, hAd, hA0, hA1⟩ : ∃ A : Int, A = (if a < -1099511627776 ∨ 1099511627776 < a then a / 2097152 else a) ∧ -4398046511105 ≤ A ∧ A ≤ 4398046511105 := ⟨_, rfl, by split <;> omega, by split <;> omega⟩
  obtain ⟨Q, hQ, hQ0, hQ1⟩ : ∃ Q : Int, Q = (if m ≤ 1152921504606846976 then rnd A m else 0) ∧ -4398046511105 ≤ Q ∧ Q ≤ 4398046511106 := by
    have := rnd_abs (a := A) hm1 hA0 hA1 (by omega)
    exact ⟨_, rfl, by split <;> omega, by split <;> omega⟩
  have HS := Lib.hid (fun w => hQ ▸ srd_any A m w (by omega) (by omega) hm1 (by omega))
  clear hQ
  rcases (by omega : (a < -1099511627776 ∧ A = a / 2097152) ∨ (1099511627776 < a ∧ ¬ a < -1099511627776 ∧ A = a / 2097152) ∨ (-1099511627776 ≤ a ∧ a ≤ 1099511627776 ∧ A = a)) with ⟨h1, hA⟩ | ⟨h1, h2, hA⟩ | ⟨h1, h2, hA⟩
  all_goals
    clear hAd
    rcases hmm with ⟨hb1, hmm⟩ | ⟨hb1, hmm⟩
    all_goals
      subst hmm
      subst hA
      go_wp2_with (first | (go_at_call 38; refine (HS.out _).mono ?_; rintro e w' ⟨rfl, rfl⟩) | fail)
      refine (pick_any (R1.alloc _) (by omega) (by omega) (by omega)).mono ?_
      rintro e w3 ⟨x, x0, x1, rfl, R3, G3⟩
      have hl2 := R1.lt
      have bC := (Blk.new w2 _ _).grown G3 (by intro e; injection e with e; omega)
      obtain ⟨v, v0, v1, cv⟩ := draw_cell (l := [0, 0, 1, -1]) (lo := -1) (hi := 1) bC (by decide) x0 (by simpa using x1)
      clear bC R1 G3
      go_wp2_with fail
      refine (odd_any R3 (by omega) (by omega) (by omega)).mono ?_
      rintro e w4 ⟨bo, rfl, R4, G4⟩
      clear cv R3 G4
      cases bo
      · have HR := Lib.hid R4
        clear R4
        go_wp2
        go_ret3
        exact ⟨_, _, _, hA0, hA1, b0, b1, by omega, by omega, rfl, HR.out.below⟩
      · go_wp2_with fail
        refine (pick_any (R4.alloc _) (by omega) (by omega) (by omega)).mono ?_
        rintro e w5 ⟨y, y0, y1, rfl, R5, G5⟩
        have hl4 := R4.lt
        have bD := (Blk.new w4 _ _).grown G5 (by intro e; injection e with e; omega)
        obtain ⟨z, z0, z1, cz⟩ := draw_cell (l := [1099511627777, -1099511627776]) (lo := -1099511627776) (hi := 1099511627777) bD (by decide) y0 (by simpa using y1)
        have HR := Lib.hid R5
        clear bD R4 R5 G5
        go_wp2
        go_ret3
        exact ⟨_, _, _, hA0, hA1, b0, b1, by omega, by omega, rfl, HR.out.below⟩

end Go.Proofs.Ytpecffijmamddaa

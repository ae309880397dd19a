/- Square tables: what SquareValid, MulSquares, SquareWeight and PowerSquare of the program and of the reference return. No condition: contracts for the walks of the laws. -/
import Derived.Test.YthfgfbaoeklhnaaBase
namespace Go.Proofs.Ythfgfbaoeklhnaa
open Go.ChangeShapes Go.WideShapes Go.ChangeAt Go.RowKit

structure Sq where
  a : Int
  b : Int
  c : Int
  d : Int

namespace Sq
def ok (s : Sq) : Bool := decide ((-1000000000 ≤ s.a ∧ s.a ≤ 1000000000) ∧ (-1000000000 ≤ s.b ∧ s.b ≤ 1000000000) ∧ (-1000000000 ≤ s.c ∧ s.c ≤ 1000000000) ∧ (-1000000000 ≤ s.d ∧ s.d ≤ 1000000000))
def mul (s x : Sq) : Sq := ⟨s.a * x.a + s.b * x.c, s.a * x.b + s.b * x.d, s.c * x.a + s.d * x.c, s.c * x.b + s.d * x.d⟩
def zero : Sq := ⟨0, 0, 0, 0⟩
def one : Sq := ⟨1, 0, 0, 1⟩
def step (s x : Sq) : Sq × Bool := if s.ok = true ∧ x.ok = true ∧ (s.mul x).ok = true then (s.mul x, true) else (zero, false)
def weight (s : Sq) : Int := if s.ok = true then s.a * s.d - s.b * s.c else 0
theorem ok_mk {a b c d : Int} (h : ok ⟨a, b, c, d⟩ = true) : (-1000000000 ≤ a ∧ a ≤ 1000000000) ∧ (-1000000000 ≤ b ∧ b ≤ 1000000000) ∧ (-1000000000 ≤ c ∧ c ≤ 1000000000) ∧ (-1000000000 ≤ d ∧ d ≤ 1000000000) := by
  simpa [ok] using h
theorem ok_of {a b c d : Int} (h : (-1000000000 ≤ a ∧ a ≤ 1000000000) ∧ (-1000000000 ≤ b ∧ b ≤ 1000000000) ∧ (-1000000000 ≤ c ∧ c ≤ 1000000000) ∧ (-1000000000 ≤ d ∧ d ≤ 1000000000)) : ok ⟨a, b, c, d⟩ = true := by
  simpa [ok] using h
theorem ok_no {a b c d : Int} (h : ¬ ((-1000000000 ≤ a ∧ a ≤ 1000000000) ∧ (-1000000000 ≤ b ∧ b ≤ 1000000000) ∧ (-1000000000 ≤ c ∧ c ≤ 1000000000) ∧ (-1000000000 ≤ d ∧ d ≤ 1000000000))) : ok ⟨a, b, c, d⟩ = false := by
  simp only [ok, decide_eq_false_iff_not]; exact h
end Sq

/-- The product of two numbers below 10^9. -/
theorem prod_bd {x y : Int} (hx : -1000000000 ≤ x ∧ x ≤ 1000000000) (hy : -1000000000 ≤ y ∧ y ≤ 1000000000) : -1000000000000000000 ≤ x * y ∧ x * y ≤ 1000000000000000000 := by
  have h1 : 0 ≤ (1000000000 - x) * (1000000000 - y) := Int.mul_nonneg (by omega) (by omega)
  have h2 : 0 ≤ (1000000000 + x) * (1000000000 + y) := Int.mul_nonneg (by omega) (by omega)
  have h3 : 0 ≤ (1000000000 - x) * (1000000000 + y) := Int.mul_nonneg (by omega) (by omega)
  have h4 : 0 ≤ (1000000000 + x) * (1000000000 - y) := Int.mul_nonneg (by omega) (by omega)
  rw [Int.sub_mul, Int.mul_sub, Int.mul_sub] at h1
  rw [Int.add_mul, Int.mul_add, Int.mul_add] at h2
  rw [Int.sub_mul, Int.mul_add, Int.mul_add] at h3
  rw [Int.add_mul, Int.mul_sub, Int.mul_sub] at h4
  omega

def SqVPost (a b c d : Int) (w : World) (e : Ending) (w' : World) : Prop := e = .returned (.bool (Sq.ok ⟨a, b, c, d⟩)) ∧ w' = w.alloc (.cells #[.int .i64 a, .int .i64 b, .int .i64 c, .int .i64 d] 25)

theorem sqV_close {a b c d : Int} {w : World} {v : Bool} (h : v = Sq.ok ⟨a, b, c, d⟩) : SqVPost a b c d w (.returned (.bool v)) (w.alloc (.cells #[.int .i64 a, .int .i64 b, .int .i64 c, .int .i64 d] 25)) := ⟨by rw [h], rfl⟩

set_option maxHeartbeats 400000 in
theorem sqv_impl (a b c d : Int) (w : World) :
    Calls Try.prog 19 #[.agg #[.int .i64 a, .int .i64 b, .int .i64 c, .int .i64 d]] w (SqVPost a b c d w) := by
  go_enter Try.func19, Try.ntmps19
  go_wp2
  all_goals (go_ret; refine sqV_close ?_; first | (rw [Sq.ok_no (by omega)]; done) | (by_cases h : d ≤ 1000000000 <;> simp [h, Sq.ok] <;> omega))

set_option maxHeartbeats 400000 in
theorem sqv_spec (a b c d : Int) (w : World) :
    Calls Try.prog 17 #[.agg #[.int .i64 a, .int .i64 b, .int .i64 c, .int .i64 d]] w (SqVPost a b c d w) := by
  go_enter Try.func17, Try.ntmps17
  go_wp2
  all_goals (go_ret; refine sqV_close ?_; first | (rw [Sq.ok_no (by omega)]; done) | (by_cases h : d ≤ 1000000000 <;> simp [h, Sq.ok] <;> omega))

/-- What MulSquares returns. -/
def SqMPost (s x : Sq) (w : World) (e : Ending) (w' : World) : Prop :=
  ∃ p q r t : Int, ∃ o : Bool, e = .returned (.tuple #[.agg #[.int .i64 p, .int .i64 q, .int .i64 r, .int .i64 t], .bool o]) ∧ Sq.step s x = (⟨p, q, r, t⟩, o) ∧ Below w.heap.size w w'

theorem sqM_no {s x : Sq} {w w' : World} (h : s.ok = false ∨ x.ok = false ∨ (s.mul x).ok = false) (hb : Below w.heap.size w w') :
    SqMPost s x w (.returned (.tuple #[.agg #[.int .i64 0, .int .i64 0, .int .i64 0, .int .i64 0], .bool false])) w' := by
  refine ⟨0, 0, 0, 0, false, rfl, ?_, hb⟩
  unfold Sq.step
  rw [if_neg]
  · rfl
  · rintro ⟨h1, h2, h3⟩
    simp [h1, h2, h3] at h
theorem sqM_ok {s x : Sq} {w w' : World} (h1 : s.ok = true) (h2 : x.ok = true) (h3 : (s.mul x).ok = true) (hb : Below w.heap.size w w') :
    SqMPost s x w (.returned (.tuple #[.agg #[.int .i64 (s.mul x).a, .int .i64 (s.mul x).b, .int .i64 (s.mul x).c, .int .i64 (s.mul x).d], .bool true])) w' := by
  refine ⟨_, _, _, _, true, rfl, ?_, hb⟩
  unfold Sq.step
  rw [if_pos ⟨h1, h2, h3⟩]

set_option maxHeartbeats 1000000 in
theorem mul_impl (a b c d e f g h : Int) (w : World) :
    Calls Try.prog 27 #[.agg #[.int .i64 a, .int .i64 b, .int .i64 c, .int .i64 d], .agg #[.int .i64 e, .int .i64 f, .int .i64 g, .int .i64 h]] w (SqMPost ⟨a, b, c, d⟩ ⟨e, f, g, h⟩ w) := by
  have HN := Lib.hid (fun hs w' hb => sqM_no (s := ⟨a, b, c, d⟩) (x := ⟨e, f, g, h⟩) (w := w) (w' := w') hs hb)
  by_cases h1 : Sq.ok ⟨a, b, c, d⟩ = true
  · by_cases h2 : Sq.ok ⟨e, f, g, h⟩ = true
    · obtain ⟨ba, bb, bc, bd⟩ := Sq.ok_mk h1
      obtain ⟨be, bf, bg, bh⟩ := Sq.ok_mk h2
      have p1 := prod_bd ba be
      have p2 := prod_bd bb bg
      have p3 := prod_bd ba bf
      have p4 := prod_bd bb bh
      have p5 := prod_bd bc be
      have p6 := prod_bd bd bg
      have p7 := prod_bd bc bf
      have p8 := prod_bd bd bh
      have HO := fun h3 w' hb => sqM_ok (s := ⟨a, b, c, d⟩) (x := ⟨e, f, g, h⟩) (w := w) (w' := w') h1 h2 h3 hb
      have HO' := Lib.hid HO
      clear HO
      obtain ⟨o, ho⟩ : ∃ o, Sq.ok (Sq.mul ⟨a, b, c, d⟩ ⟨e, f, g, h⟩) = o := ⟨_, rfl⟩
      have ho' : Sq.ok ⟨a * e + b * g, a * f + b * h, c * e + d * g, c * f + d * h⟩ = o := ho
      have HH := Lib.hid ho
      clear ho
      cases o
      all_goals
        go_enter Try.func27, Try.ntmps27
        go_wp2_with (go_at_call 19; refine (sqv_impl _ _ _ _ _).mono ?_; rintro e w' ⟨rfl, rfl⟩)
        go_returns
        first | exact HN.out (.inr (.inr HH.out)) _ (by go_grown) | exact HO'.out HH.out _ (by go_grown)
    · have h2' : Sq.ok ⟨e, f, g, h⟩ = false := by simpa using h2
      go_enter Try.func27, Try.ntmps27
      go_wp2_with (go_at_call 19; refine (sqv_impl _ _ _ _ _).mono ?_; rintro e w' ⟨rfl, rfl⟩)
      go_returns
      exact HN.out (.inr (.inl h2')) _ (by go_grown)
  · have h1' : Sq.ok ⟨a, b, c, d⟩ = false := by simpa using h1
    go_enter Try.func27, Try.ntmps27
    go_wp2_with (go_at_call 19; refine (sqv_impl _ _ _ _ _).mono ?_; rintro e w' ⟨rfl, rfl⟩)
    go_returns
    exact HN.out (.inl h1') _ (by go_grown)

set_option maxHeartbeats 1000000 in
theorem mul_spec (a b c d e f g h : Int) (w : World) :
    Calls Try.prog 26 #[.agg #[.int .i64 a, .int .i64 b, .int .i64 c, .int .i64 d], .agg #[.int .i64 e, .int .i64 f, .int .i64 g, .int .i64 h]] w (SqMPost ⟨a, b, c, d⟩ ⟨e, f, g, h⟩ w) := by
  have HN := Lib.hid (fun hs w' hb => sqM_no (s := ⟨a, b, c, d⟩) (x := ⟨e, f, g, h⟩) (w := w) (w' := w') hs hb)
  by_cases h1 : Sq.ok ⟨a, b, c, d⟩ = true
  · by_cases h2 : Sq.ok ⟨e, f, g, h⟩ = true
    · obtain ⟨ba, bb, bc, bd⟩ := Sq.ok_mk h1
      obtain ⟨be, bf, bg, bh⟩ := Sq.ok_mk h2
      have p1 := prod_bd ba be
      have p2 := prod_bd bb bg
      have p3 := prod_bd ba bf
      have p4 := prod_bd bb bh
      have p5 := prod_bd bc be
      have p6 := prod_bd bd bg
      have p7 := prod_bd bc bf
      have p8 := prod_bd bd bh
      have HO := fun h3 w' hb => sqM_ok (s := ⟨a, b, c, d⟩) (x := ⟨e, f, g, h⟩) (w := w) (w' := w') h1 h2 h3 hb
      have HO' := Lib.hid HO
      clear HO
      obtain ⟨o, ho⟩ : ∃ o, Sq.ok (Sq.mul ⟨a, b, c, d⟩ ⟨e, f, g, h⟩) = o := ⟨_, rfl⟩
      have ho' : Sq.ok ⟨a * e + b * g, a * f + b * h, c * e + d * g, c * f + d * h⟩ = o := ho
      have HH := Lib.hid ho
      clear ho
      cases o
      all_goals
        go_enter Try.func26, Try.ntmps26
        go_wp2_with (go_at_call 17; refine (sqv_spec _ _ _ _ _).mono ?_; rintro e w' ⟨rfl, rfl⟩)
        go_returns
        first | exact HN.out (.inr (.inr HH.out)) _ (by go_grown) | exact HO'.out HH.out _ (by go_grown)
    · have h2' : Sq.ok ⟨e, f, g, h⟩ = false := by simpa using h2
      go_enter Try.func26, Try.ntmps26
      go_wp2_with (go_at_call 17; refine (sqv_spec _ _ _ _ _).mono ?_; rintro e w' ⟨rfl, rfl⟩)
      go_returns
      exact HN.out (.inr (.inl h2')) _ (by go_grown)
  · have h1' : Sq.ok ⟨a, b, c, d⟩ = false := by simpa using h1
    go_enter Try.func26, Try.ntmps26
    go_wp2_with (go_at_call 17; refine (sqv_spec _ _ _ _ _).mono ?_; rintro e w' ⟨rfl, rfl⟩)
    go_returns
    exact HN.out (.inl h1') _ (by go_grown)

set_option maxHeartbeats 400000 in
theorem weight_impl (a b c d : Int) (w : World) :
    Calls Try.prog 23 #[.agg #[.int .i64 a, .int .i64 b, .int .i64 c, .int .i64 d]] w fun e w' => e = .returned (.int .i64 (Sq.weight ⟨a, b, c, d⟩)) ∧ Below w.heap.size w w' := by
  by_cases h1 : Sq.ok ⟨a, b, c, d⟩ = true
  · obtain ⟨ba, bb, bc, bd⟩ := Sq.ok_mk h1
    have p1 := prod_bd ba bd
    have p2 := prod_bd bb bc
    have HE : Hid (a * d - b * c = Sq.weight ⟨a, b, c, d⟩) := by show _ = Sq.weight _; unfold Sq.weight; rw [if_pos h1]
    go_enter Try.func23, Try.ntmps23
    go_wp2_with (go_at_call 19; refine (sqv_impl _ _ _ _ _).mono ?_; rintro e w' ⟨rfl, rfl⟩)
    go_ret
    exact ⟨ret_int HE.out, by go_grown⟩
  · have h1' : Sq.ok ⟨a, b, c, d⟩ = false := by simpa using h1
    have HE : Hid ((0 : Int) = Sq.weight ⟨a, b, c, d⟩) := by show _ = Sq.weight _; unfold Sq.weight; rw [if_neg h1]
    go_enter Try.func23, Try.ntmps23
    go_wp2_with (go_at_call 19; refine (sqv_impl _ _ _ _ _).mono ?_; rintro e w' ⟨rfl, rfl⟩)
    go_ret
    exact ⟨ret_int HE.out, by go_grown⟩

set_option maxHeartbeats 400000 in
theorem weight_spec (a b c d : Int) (w : World) :
    Calls Try.prog 22 #[.agg #[.int .i64 a, .int .i64 b, .int .i64 c, .int .i64 d]] w fun e w' => e = .returned (.int .i64 (Sq.weight ⟨a, b, c, d⟩)) ∧ Below w.heap.size w w' := by
  by_cases h1 : Sq.ok ⟨a, b, c, d⟩ = true
  · obtain ⟨ba, bb, bc, bd⟩ := Sq.ok_mk h1
    have p1 := prod_bd ba bd
    have p2 := prod_bd bb bc
    have HE : Hid (a * d - b * c = Sq.weight ⟨a, b, c, d⟩) := by show _ = Sq.weight _; unfold Sq.weight; rw [if_pos h1]
    go_enter Try.func22, Try.ntmps22
    go_wp2_with (go_at_call 17; refine (sqv_spec _ _ _ _ _).mono ?_; rintro e w' ⟨rfl, rfl⟩)
    go_ret
    exact ⟨ret_int HE.out, by go_grown⟩
  · have h1' : Sq.ok ⟨a, b, c, d⟩ = false := by simpa using h1
    have HE : Hid ((0 : Int) = Sq.weight ⟨a, b, c, d⟩) := by show _ = Sq.weight _; unfold Sq.weight; rw [if_neg h1]
    go_enter Try.func22, Try.ntmps22
    go_wp2_with (go_at_call 17; refine (sqv_spec _ _ _ _ _).mono ?_; rintro e w' ⟨rfl, rfl⟩)
    go_ret
    exact ⟨ret_int HE.out, by go_grown⟩

/-- The power, as both texts reckon it: what the rounds hold. -/
def Sq.pow (s : Sq) : Nat → Sq × Bool
  | 0 => (Sq.one, true)
  | n + 1 => if (Sq.pow s n).2 = true then Sq.step (Sq.pow s n).1 s else (Sq.zero, false)
def Sq.power (s : Sq) (e : Int) : Sq × Bool := if s.ok = true ∧ 0 ≤ e ∧ e ≤ 100 then Sq.pow s e.toNat else (Sq.zero, false)
theorem Sq.pow_false {s : Sq} {n : Nat} (h : (Sq.pow s n).2 = false) : Sq.pow s n = (Sq.zero, false) ∧ (Sq.pow s (n + 1)).2 = false := by
  refine ⟨?_, by rw [Sq.pow, if_neg (by simp [h])]⟩
  cases n with
  | zero => simp [Sq.pow] at h
  | succ n =>
    rw [Sq.pow] at h ⊢
    by_cases hn : (Sq.pow s n).2 = true
    · rw [if_pos hn] at h ⊢
      unfold Sq.step at h ⊢
      split at h
      · cases h
      · rw [if_neg ‹_›]
    · rw [if_neg hn]
theorem Sq.pow_up {s : Sq} {n m : Nat} (hm : n ≤ m) (h : (Sq.pow s n).2 = false) : Sq.pow s m = (Sq.zero, false) := by
  have : (Sq.pow s m).2 = false := by
    induction m with
    | zero =>
      have : n = 0 := by omega
      subst this; exact h
    | succ m ih =>
      rcases Nat.eq_or_lt_of_le hm with e | hlt
      · subst e; exact h
      · exact (Sq.pow_false (ih (by omega))).2
  exact (Sq.pow_false this).1

/-- What PowerSquare returns. -/
def SqPPost (s : Sq) (e : Int) (w : World) (en : Ending) (w' : World) : Prop :=
  ∃ p q r t : Int, ∃ o : Bool, en = .returned (.tuple #[.agg #[.int .i64 p, .int .i64 q, .int .i64 r, .int .i64 t], .bool o]) ∧ Sq.power s e = (⟨p, q, r, t⟩, o) ∧ Below w.heap.size w w'
theorem sqP_no {s : Sq} {e : Int} {w w' : World} (h : Sq.power s e = (Sq.zero, false)) (hb : Below w.heap.size w w') :
    SqPPost s e w (.returned (.tuple #[.agg #[.int .i64 0, .int .i64 0, .int .i64 0, .int .i64 0], .bool false])) w' := ⟨0, 0, 0, 0, false, rfl, h, hb⟩
theorem sqP_ok {s : Sq} {e p q r t : Int} {w w' : World} (h : Sq.power s e = (⟨p, q, r, t⟩, true)) (hb : Below w.heap.size w w') :
    SqPPost s e w (.returned (.tuple #[.agg #[.int .i64 p, .int .i64 q, .int .i64 r, .int .i64 t], .bool true])) w' := ⟨p, q, r, t, true, rfl, h, hb⟩

/-- The loop's relation in PowerSquare. -/
structure PowRel (s : Sq) (e : Int) (w : World) (k : Nat) (p q r t : Int) (wr : World) : Prop where
  hk : (k : Int) ≤ e
  pw : Sq.pow s k = (⟨p, q, r, t⟩, true)
  bel : Below w.heap.size w wr
  b0 : Blk wr w.heap.size 25 #[.int .i64 s.a, .int .i64 s.b, .int .i64 s.c, .int .i64 s.d]
  b1 : ∃ x y z u, Blk wr (w.heap.size + 1) 25 #[x, y, z, u]
  b3 : Blk wr (w.heap.size + 1 + 1 + 1) 25 #[.int .i64 p, .int .i64 q, .int .i64 r, .int .i64 t]
theorem pow_next {s : Sq} {k : Nat} {p q r t p' q' r' t' : Int} {o : Bool} (h : Sq.pow s k = (⟨p, q, r, t⟩, true)) (h' : Sq.step ⟨p, q, r, t⟩ s = (⟨p', q', r', t'⟩, o)) : Sq.pow s (k + 1) = (⟨p', q', r', t'⟩, o) := by
  rw [Sq.pow, h, if_pos rfl, h']
theorem power_stop {s : Sq} {e : Int} {k : Nat} (h1 : s.ok = true) (h2 : 0 ≤ e) (h3 : e ≤ 100) (hk : (k : Int) < e) {x : Sq} (h : Sq.pow s (k + 1) = (x, false)) : Sq.power s e = (Sq.zero, false) := by
  unfold Sq.power
  rw [if_pos ⟨h1, h2, h3⟩]
  exact Sq.pow_up (n := k + 1) (by omega) (by rw [h])
theorem power_end {s : Sq} {e : Int} {k : Nat} (h1 : s.ok = true) (h2 : 0 ≤ e) (h3 : e ≤ 100) (hk : (k : Int) ≤ e) (hk' : ¬ (k : Int) < e) {x : Sq × Bool} (h : Sq.pow s k = x) : Sq.power s e = x := by
  unfold Sq.power
  rw [if_pos ⟨h1, h2, h3⟩, ← h]
  congr 1
  omega
theorem power_no {s : Sq} {e : Int} (h : ¬ (s.ok = true ∧ 0 ≤ e ∧ e ≤ 100)) : Sq.power s e = (Sq.zero, false) := by
  unfold Sq.power; rw [if_neg h]

set_option maxHeartbeats 1000000 in
theorem pow_impl (a b c d e : Int) (w : World) (he : -9223372036854775808 ≤ e ∧ e ≤ 9223372036854775807) :
    Calls Try.prog 36 #[.agg #[.int .i64 a, .int .i64 b, .int .i64 c, .int .i64 d], .int .i64 e] w (SqPPost ⟨a, b, c, d⟩ e w) := by
  have HN := Lib.hid (fun hs w' hb => sqP_no (s := ⟨a, b, c, d⟩) (e := e) (w := w) (w' := w') hs hb)
  have HO := Lib.hid (fun p q r t hs w' hb => sqP_ok (s := ⟨a, b, c, d⟩) (e := e) (p := p) (q := q) (r := r) (t := t) (w := w) (w' := w') hs hb)
  by_cases h1 : Sq.ok ⟨a, b, c, d⟩ = true
  · by_cases h2 : 0 ≤ e ∧ e ≤ 100
    · obtain ⟨e1, e2⟩ := h2
      have HST := Lib.hid (fun k hk x h => power_stop (s := ⟨a, b, c, d⟩) (e := e) (k := k) h1 e1 e2 hk (x := x) h)
      have HEN := Lib.hid (fun k hk hk' x h => power_end (s := ⟨a, b, c, d⟩) (e := e) (k := k) h1 e1 e2 hk hk' (x := x) h)
      go_enter Try.func36, Try.ntmps36
      go_wp2_with (first | (go_at_call 19; refine (sqv_impl _ _ _ _ _).mono ?_; rintro e w' ⟨rfl, rfl⟩) | go_in)
      go_loopw [23] (fun i wr => ∃ (k : Nat) (p q r t : Int), i = .int .i64 k ∧ PowRel ⟨a, b, c, d⟩ e w k p q r t wr) (fun i _ => e.toNat - (intOf i).toNat)
      case atStart =>
        refine ⟨0, 1, 0, 0, 1, rfl, ⟨by omega, rfl, by go_grown, ?_, ⟨.int .i64 0, .int .i64 0, .int .i64 0, .int .i64 0, ?_⟩, ?_⟩⟩
        · exact (((Blk.new w _ _).alloc _).alloc _).alloc _
        · exact ((Blk.newAt (by simp)).alloc _).alloc _
        · exact Blk.newAt (by simp)
      case round =>
        obtain ⟨k, p, q, r, t, rfl, R⟩ := hrel
        have hx := R.b1
        obtain ⟨x, y, z, u, hx⟩ := hx
        obtain ⟨c00, c01, c02, c03, -, -, -, -, l0⟩ := blk4 R.b0
        obtain ⟨c10, c11, c12, c13, f10, f11, f12, f13, l1⟩ := blk4 hx
        obtain ⟨c30, c31, c32, c33, f30, f31, f32, f33, l3⟩ := blk4 R.b3
        have HX := Lib.hid hx
        have hk := R.hk
        have HR := Lib.hid R
        clear R hx
        by_cases hlt : (k : Int) < e
        · go_wp2_with fail
          refine (mul_impl _ _ _ _ _ _ _ _ _).mono ?_
          rintro e' w1 ⟨p', q', r', t', o, rfl, hst, hb⟩
          have HS := Lib.hid hst
          clear hst
          have n0 := HR.out.b0.below hb l0
          have n1 := HX.out.below hb l1
          have n3 := HR.out.b3.below hb l3
          have hbw := HR.out.bel.trans (hb.mono HR.out.bel.size)
          have N0 := Lib.hid n0
          have N1 := Lib.hid n1
          have N3 := Lib.hid n3
          have HBW := Lib.hid hbw
          clear c00 c01 c02 c03 c10 c11 c12 c13 f10 f11 f12 f13 c30 c31 c32 c33 f30 f31 f32 f33
          obtain ⟨c00, c01, c02, c03, -, -, -, -, m0⟩ := blk4 n0
          obtain ⟨c10, c11, c12, c13, f10, f11, f12, f13, m1⟩ := blk4 n1
          obtain ⟨c30, c31, c32, c33, f30, f31, f32, f33, m3⟩ := blk4 n3
          clear l0 l1 l3 n0 n1 n3 hbw hb
          cases o
          · go_wp2_with fail
            refine bodyPost_ret (v := .tuple #[.agg #[.int .i64 0, .int .i64 0, .int .i64 0, .int .i64 0], .bool false]) (by simp [results, Try.results36, go_sem, c10, c11, c12, c13, m1]) rfl ?_
            refine HN.out (HST.out k (by omega) _ (pow_next HR.out.pw HS.out)) _ ?_
            have hbw := HBW.out
            have := hbw.size
            go_grown
          · go_wp2_with fail
            go_roundw
            case rel =>
              refine ⟨k + 1, p', q', r', t', by go_num, ⟨by omega, pow_next HR.out.pw HS.out, ?_, ?_, ⟨x, y, z, u, ?_⟩, ?_⟩⟩
              · have hbw := HBW.out
                have := hbw.size
                go_grown
              · exact ((((N0.out.far (by dsimp only; omega) _).far (by dsimp only; omega) _).far (by dsimp only; omega) _).far (by dsimp only; omega) _).alloc _
              · exact ((((N1.out.far (by dsimp only; omega) _).far (by dsimp only; omega) _).far (by dsimp only; omega) _).far (by dsimp only; omega) _).alloc _
              · exact ((((N3.out.set 0 _).set 1 _).set 2 _).set 3 _).alloc _
            case measure => simp [intOf]; omega
        · have HBW := Lib.hid HR.out.bel
          go_wp2_with fail
          refine bodyPost_ret (v := .tuple #[.agg #[.int .i64 p, .int .i64 q, .int .i64 r, .int .i64 t], .bool true]) (by simp [results, Try.results36, go_sem, c10, c11, c12, c13]) rfl ?_
          refine HO.out _ _ _ _ (HEN.out k (by omega) (by omega) _ HR.out.pw) _ ?_
          have hbw := HBW.out
          have := hbw.size
          go_grown
    · have h2' := h2
      have HP := Lib.hid (power_no (s := ⟨a, b, c, d⟩) (e := e) (fun h => h2' h.2))
      rcases (by simp; omega : (e < 0 ∧ decide (e < 0) = true) ∨ (¬ e < 0 ∧ 100 < e ∧ decide (e ≤ 100) = false)) with ⟨h3, h4⟩ | ⟨h3, h5, h4⟩
      all_goals
        clear h2 h2'
        go_enter Try.func36, Try.ntmps36
        go_wp2_with (first | (go_at_call 19; refine (sqv_impl _ _ _ _ _).mono ?_; rintro e w' ⟨rfl, rfl⟩) | go_in)
        all_goals (go_returns; exact HN.out HP.out _ (by go_grown))
  · have h1' : Sq.ok ⟨a, b, c, d⟩ = false := by simpa using h1
    have HP := Lib.hid (power_no (s := ⟨a, b, c, d⟩) (e := e) (fun h => h1 h.1))
    clear h1
    go_enter Try.func36, Try.ntmps36
    go_wp2_with (first | (go_at_call 19; refine (sqv_impl _ _ _ _ _).mono ?_; rintro e w' ⟨rfl, rfl⟩) | go_in)
    go_returns
    exact HN.out HP.out _ (by go_grown)

set_option maxHeartbeats 1000000 in
theorem pow_spec (a b c d e : Int) (w : World) (he : -9223372036854775808 ≤ e ∧ e ≤ 9223372036854775807) :
    Calls Try.prog 35 #[.agg #[.int .i64 a, .int .i64 b, .int .i64 c, .int .i64 d], .int .i64 e] w (SqPPost ⟨a, b, c, d⟩ e w) := by
  have HN := Lib.hid (fun hs w' hb => sqP_no (s := ⟨a, b, c, d⟩) (e := e) (w := w) (w' := w') hs hb)
  have HO := Lib.hid (fun p q r t hs w' hb => sqP_ok (s := ⟨a, b, c, d⟩) (e := e) (p := p) (q := q) (r := r) (t := t) (w := w) (w' := w') hs hb)
  by_cases h1 : Sq.ok ⟨a, b, c, d⟩ = true
  · by_cases h2 : 0 ≤ e ∧ e ≤ 100
    · obtain ⟨e1, e2⟩ := h2
      have HST := Lib.hid (fun k hk x h => power_stop (s := ⟨a, b, c, d⟩) (e := e) (k := k) h1 e1 e2 hk (x := x) h)
      have HEN := Lib.hid (fun k hk hk' x h => power_end (s := ⟨a, b, c, d⟩) (e := e) (k := k) h1 e1 e2 hk hk' (x := x) h)
      go_enter Try.func35, Try.ntmps35
      go_wp2_with (first | (go_at_call 17; refine (sqv_spec _ _ _ _ _).mono ?_; rintro e w' ⟨rfl, rfl⟩) | go_in)
      go_loopw [7] (fun i wr => ∃ (k : Nat) (p q r t : Int), i = .int .i64 k ∧ PowRel ⟨a, b, c, d⟩ e w k p q r t wr) (fun i _ => e.toNat - (intOf i).toNat)
      case atStart =>
        refine ⟨0, 1, 0, 0, 1, rfl, ⟨by omega, rfl, by go_grown, ?_, ⟨.int .i64 0, .int .i64 0, .int .i64 0, .int .i64 0, ?_⟩, ?_⟩⟩
        · exact (((Blk.new w _ _).alloc _).alloc _).alloc _
        · exact ((Blk.newAt (by simp)).alloc _).alloc _
        · exact Blk.newAt (by simp)
      case round =>
        obtain ⟨k, p, q, r, t, rfl, R⟩ := hrel
        have hx := R.b1
        obtain ⟨x, y, z, u, hx⟩ := hx
        obtain ⟨c00, c01, c02, c03, -, -, -, -, l0⟩ := blk4 R.b0
        obtain ⟨c10, c11, c12, c13, f10, f11, f12, f13, l1⟩ := blk4 hx
        obtain ⟨c30, c31, c32, c33, f30, f31, f32, f33, l3⟩ := blk4 R.b3
        have HX := Lib.hid hx
        have hk := R.hk
        have HR := Lib.hid R
        clear R hx
        by_cases hlt : (k : Int) < e
        · go_wp2_with fail
          refine (mul_spec _ _ _ _ _ _ _ _ _).mono ?_
          rintro e' w1 ⟨p', q', r', t', o, rfl, hst, hb⟩
          have HS := Lib.hid hst
          clear hst
          have n0 := HR.out.b0.below hb l0
          have n1 := HX.out.below hb l1
          have n3 := HR.out.b3.below hb l3
          have hbw := HR.out.bel.trans (hb.mono HR.out.bel.size)
          have N0 := Lib.hid n0
          have N1 := Lib.hid n1
          have N3 := Lib.hid n3
          have HBW := Lib.hid hbw
          clear c00 c01 c02 c03 c10 c11 c12 c13 f10 f11 f12 f13 c30 c31 c32 c33 f30 f31 f32 f33
          obtain ⟨c00, c01, c02, c03, -, -, -, -, m0⟩ := blk4 n0
          obtain ⟨c10, c11, c12, c13, f10, f11, f12, f13, m1⟩ := blk4 n1
          obtain ⟨c30, c31, c32, c33, f30, f31, f32, f33, m3⟩ := blk4 n3
          clear l0 l1 l3 n0 n1 n3 hbw hb
          cases o
          · go_wp2_with fail
            refine bodyPost_ret (v := .tuple #[.agg #[.int .i64 0, .int .i64 0, .int .i64 0, .int .i64 0], .bool false]) (by simp [results, Try.results35, go_sem, c10, c11, c12, c13, m1]) rfl ?_
            refine HN.out (HST.out k (by omega) _ (pow_next HR.out.pw HS.out)) _ ?_
            have hbw := HBW.out
            have := hbw.size
            go_grown
          · go_wp2_with fail
            go_roundw
            case rel =>
              (repeat apply Exists.intro)
              refine ⟨?_, rfl⟩
              refine ⟨k + 1, p', q', r', t', by go_num, ⟨by omega, pow_next HR.out.pw HS.out, ?_, ?_, ⟨x, y, z, u, ?_⟩, ?_⟩⟩
              · have hbw := HBW.out
                have := hbw.size
                go_grown
              · exact ((((N0.out.far (by dsimp only; omega) _).far (by dsimp only; omega) _).far (by dsimp only; omega) _).far (by dsimp only; omega) _).alloc _
              · exact ((((N1.out.far (by dsimp only; omega) _).far (by dsimp only; omega) _).far (by dsimp only; omega) _).far (by dsimp only; omega) _).alloc _
              · exact ((((N3.out.set 0 _).set 1 _).set 2 _).set 3 _).alloc _
            case measure => simp [intOf]; omega
        · have HBW := Lib.hid HR.out.bel
          go_wp2_with fail
          refine bodyPost_ret (v := .tuple #[.agg #[.int .i64 p, .int .i64 q, .int .i64 r, .int .i64 t], .bool true]) (by simp [results, Try.results35, go_sem, c10, c11, c12, c13]) rfl ?_
          refine HO.out _ _ _ _ (HEN.out k (by omega) (by omega) _ HR.out.pw) _ ?_
          have hbw := HBW.out
          have := hbw.size
          go_grown
    · have h2' := h2
      have HP := Lib.hid (power_no (s := ⟨a, b, c, d⟩) (e := e) (fun h => h2' h.2))
      rcases (by simp; omega : (e < 0 ∧ decide (e < 0) = true) ∨ (¬ e < 0 ∧ 100 < e ∧ decide (e ≤ 100) = false)) with ⟨h3, h4⟩ | ⟨h3, h5, h4⟩
      all_goals
        clear h2 h2'
        go_enter Try.func35, Try.ntmps35
        go_wp2_with (first | (go_at_call 17; refine (sqv_spec _ _ _ _ _).mono ?_; rintro e w' ⟨rfl, rfl⟩) | go_in)
        all_goals (go_returns; exact HN.out HP.out _ (by go_grown))
  · have h1' : Sq.ok ⟨a, b, c, d⟩ = false := by simpa using h1
    have HP := Lib.hid (power_no (s := ⟨a, b, c, d⟩) (e := e) (fun h => h1 h.1))
    clear h1
    go_enter Try.func35, Try.ntmps35
    go_wp2_with (first | (go_at_call 17; refine (sqv_spec _ _ _ _ _).mono ?_; rintro e w' ⟨rfl, rfl⟩) | go_in)
    go_returns
    exact HN.out HP.out _ (by go_grown)
end Go.Proofs.Ythfgfbaoeklhnaa

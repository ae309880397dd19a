/- The fraction of a chain, from both ends. No condition: plain law. -/
import Derived.Test.YtdpekaejklmomaaChainP
namespace Go.Proofs.Ytdpekaejklmomaa
open Go.ChangeShapes Go.WideShapes Go.ChangeAt Go.RowKit

/-- The fraction of the quotients, from the end. -/
def fcBk : List Int → Int × Int
  | [] => (1, 0)
  | q :: t => (q * (fcBk t).1 + (fcBk t).2, (fcBk t).1)
theorem back_cons (q : Int) (t : List Int) : (fcBk (q :: t)).1 = q * (fcBk t).1 + (fcBk t).2 ∧ (fcBk (q :: t)).2 = (fcBk t).1 := ⟨rfl, rfl⟩
theorem fc_gcd (a b : Int) : Int.gcd a b = Int.gcd b (a % b) := by
  have h := Int.mul_ediv_add_emod a b
  have h2 : Int.gcd (a % b + b * (a / b)) b = Int.gcd (a % b) b := by rw [Int.gcd_add_mul_left_left]
  rw [Int.add_comm, h] at h2
  rw [h2, Int.gcd_comm]
/-- From the end the quotients of two numbers without a common part lead fcBk to them. -/
theorem back_chain : ∀ (n : Nat) (a b : Int), b.toNat = n → 0 < b → Int.gcd a b = 1 → fcBk (chainL a b) = (a, b) := by
  intro n
  induction n using Nat.strongRecOn with
  | ind n ih =>
    intro a b hn hb hg
    have e := emod_bd' a hb
    have hs := Int.mul_ediv_add_emod a b
    rw [Int.mul_comm] at hs
    rw [chainL_pos hb]
    rcases (by omega : a % b = 0 ∨ 0 < a % b) with h0 | hp
    · rw [h0, chainL_zero]
      have g : Int.gcd b 0 = 1 := by rw [← h0, ← fc_gcd]; exact hg
      have b1 : b = 1 := by rw [Int.gcd_zero_right] at g; omega
      subst b1
      simp [fcBk]
    · have := ih _ (by omega) b (a % b) rfl hp (by rw [← fc_gcd]; exact hg)
      show (a / b * (fcBk (chainL b (a % b))).1 + (fcBk (chainL b (a % b))).2, (fcBk (chainL b (a % b))).1) = (a, b)
      rw [this]
      show (a / b * b + a % b, b) = (a, b)
      rw [hs]
/-- A chain that some valid fraction has. -/
def fcGood (xs : List Int) : Prop := (1 ≤ xs.length ∧ xs.length ≤ 40) ∧ frChain (fcBk xs).1 (fcBk xs).2 = xs
instance (xs : List Int) : Decidable (fcGood xs) := by unfold fcGood; exact inferInstance
theorem fcGood_ok {xs : List Int} (h : fcGood xs) : frOk (fcBk xs).1 (fcBk xs).2 = true ∧ chainL (fcBk xs).1 (fcBk xs).2 = xs := by
  obtain ⟨h1, h2⟩ := h
  unfold frChain at h2
  split at h2
  · rename_i h; exact ⟨h, h2⟩
  · rw [← h2] at h1; simp at h1
theorem chain_good {a b : Int} (h : frOk a b = true) (hl : (chainL a b).length ≤ 40) : fcGood (chainL a b) ∧ fcBk (chainL a b) = (a, b) := by
  obtain ⟨h1, h2, h3, h4, h5⟩ := frOk_mk h
  have e := back_chain _ a b rfl (by omega) h5
  refine ⟨⟨⟨?_, hl⟩, ?_⟩, e⟩
  · rw [chainL_pos (by omega)]; simp
  · rw [e]; unfold frChain; rw [if_pos h]
def fcA (xs : List Int) : Int := if fcGood xs then (fcBk xs).1 else 0
def fcB (xs : List Int) : Int := if fcGood xs then (fcBk xs).2 else 0
def fcOk (xs : List Int) : Bool := decide (fcGood xs)
theorem fc_no {xs : List Int} (h : ¬ fcGood xs) : fcA xs = 0 ∧ fcB xs = 0 ∧ fcOk xs = false := by unfold fcA fcB fcOk; simp [h]
theorem fc_yes {xs : List Int} (h : fcGood xs) : fcA xs = (fcBk xs).1 ∧ fcB xs = (fcBk xs).2 ∧ fcOk xs = true := by unfold fcA fcB fcOk; simp [h]
/-- The bounds on the way from the end. -/
def bOk (xs : List Int) (k : Nat) : Prop := (-1000000 ≤ xs.getD k 0 ∧ xs.getD k 0 ≤ 1000000) ∧ (-1000000 ≤ (fcBk (xs.drop (k + 1))).1 ∧ (fcBk (xs.drop (k + 1))).1 ≤ 1000000) ∧ (-1000000 ≤ (fcBk (xs.drop (k + 1))).2 ∧ (fcBk (xs.drop (k + 1))).2 ≤ 1000000)
theorem chain_bounds : ∀ (k : Nat) (a b : Int), -1000000 ≤ a → a ≤ 1000000 → 0 < b → b ≤ 1000000 → Int.gcd a b = 1 → k < (chainL a b).length →
    (-1000000 ≤ (chainL a b).getD k 0 ∧ (chainL a b).getD k 0 ≤ 1000000) ∧ (0 ≤ (fcBk ((chainL a b).drop (k + 1))).1 ∧ (fcBk ((chainL a b).drop (k + 1))).1 ≤ 1000000) ∧ (0 ≤ (fcBk ((chainL a b).drop (k + 1))).2 ∧ (fcBk ((chainL a b).drop (k + 1))).2 ≤ 1000000) := by
  intro k
  induction k with
  | zero =>
    intro a b h1 h2 h3 h4 h5 _
    have e := emod_bd' a h3
    have q := ediv_abs (a := a) (b := b) (M := 1000000) (by omega) (by omega) (by omega) (by omega)
    rw [chainL_pos h3]
    have hd : (a / b :: chainL b (a % b)).drop (0 + 1) = chainL b (a % b) := rfl
    rw [hd]
    refine ⟨q, ?_⟩
    rcases (by omega : a % b = 0 ∨ 0 < a % b) with h0 | hp
    · rw [h0, chainL_zero]; simp [fcBk]
    · rw [back_chain _ b (a % b) rfl hp (by rw [← fc_gcd]; exact h5)]
      exact ⟨by dsimp only; omega, by dsimp only; omega⟩
  | succ k ih =>
    intro a b h1 h2 h3 h4 h5 hk
    have e := emod_bd' a h3
    rw [chainL_pos h3] at hk ⊢
    have hd : (a / b :: chainL b (a % b)).drop (k + 1 + 1) = (chainL b (a % b)).drop (k + 1) := rfl
    have hg : (a / b :: chainL b (a % b)).getD (k + 1) 0 = (chainL b (a % b)).getD k 0 := rfl
    rw [hd, hg]
    rcases (by omega : a % b = 0 ∨ 0 < a % b) with h0 | hp
    · rw [h0, chainL_zero] at hk; simp at hk
    · exact ih b (a % b) (by omega) (by omega) hp (by omega) (by rw [← fc_gcd]; exact h5) (by simpa using hk)
theorem good_b {xs : List Int} (h : fcGood xs) {k : Nat} (hk : k < xs.length) : bOk xs k := by
  obtain ⟨h1, h2⟩ := fcGood_ok h
  obtain ⟨g1, g2, g3, g4, g5⟩ := frOk_mk h1
  have hb := chain_bounds k _ _ g1 g2 (by omega) g4 g5 (by rw [h2]; exact hk)
  rw [h2] at hb
  unfold bOk
  omega
theorem drop_back {xs : List Int} {k : Nat} (hk : k < xs.length) : (fcBk (xs.drop k)).1 = xs.getD k 0 * (fcBk (xs.drop (k + 1))).1 + (fcBk (xs.drop (k + 1))).2 ∧ (fcBk (xs.drop k)).2 = (fcBk (xs.drop (k + 1))).1 := by
  have e : xs.drop k = xs[k] :: xs.drop (k + 1) := List.drop_eq_getElem_cons hk
  have e2 : xs.getD k 0 = xs[k] := by simp [hk]
  rw [e, e2]
  exact back_cons _ _
theorem prod_bd {q x y : Int} (h1 : -1000000 ≤ q) (h2 : q ≤ 1000000) (h3 : -1000000 ≤ x) (h4 : x ≤ 1000000) (h5 : -1000000 ≤ y) (h6 : y ≤ 1000000) : (-1000000000000 ≤ q * x ∧ q * x ≤ 1000000000000) ∧ (-1000001000000 ≤ q * x + y ∧ q * x + y ≤ 1000001000000) := by
  have k : -1000000000000 ≤ q * x ∧ q * x ≤ 1000000000000 := by
    rcases Int.le_total 0 x with hx | hx
    · have a1 := Int.mul_le_mul_of_nonneg_right h2 hx
      have a2 := Int.mul_le_mul_of_nonneg_right h1 hx
      omega
    · have a1 := Int.mul_le_mul_of_nonpos_right h2 hx
      have a2 := Int.mul_le_mul_of_nonpos_right h1 hx
      omega
  omega
/-- The two last convergents of the first k quotients: (before, last), as tops and lows. -/
structure Cv where
  bt : Int
  bl : Int
  lt : Int
  ll : Int
def cv0 : Cv := ⟨0, 1, 1, 0⟩
def Cv.step (c : Cv) (q : Int) : Cv := ⟨c.lt, c.ll, q * c.lt + c.bt, q * c.ll + c.bl⟩
def cvL (xs : List Int) : Cv := xs.foldl Cv.step cv0
theorem cv_lin : ∀ (zs : List Int) (c : Cv), (zs.foldl Cv.step c).lt = c.lt * (fcBk zs).1 + c.bt * (fcBk zs).2 ∧ (zs.foldl Cv.step c).ll = c.ll * (fcBk zs).1 + c.bl * (fcBk zs).2
  | [], c => by simp [fcBk]
  | q :: t, c => by
    obtain ⟨h1, h2⟩ := cv_lin t (c.step q)
    rw [List.foldl_cons, h1, h2, (back_cons q t).1, (back_cons q t).2]
    constructor
    · show (q * c.lt + c.bt) * (fcBk t).1 + c.lt * (fcBk t).2 = c.lt * (q * (fcBk t).1 + (fcBk t).2) + c.bt * (fcBk t).1
      rw [Int.add_mul, Int.mul_add, ← Int.mul_assoc, Int.mul_comm q c.lt]; omega
    · show (q * c.ll + c.bl) * (fcBk t).1 + c.ll * (fcBk t).2 = c.ll * (q * (fcBk t).1 + (fcBk t).2) + c.bl * (fcBk t).1
      rw [Int.add_mul, Int.mul_add, ← Int.mul_assoc, Int.mul_comm q c.ll]; omega
theorem cv_back (xs : List Int) : (cvL xs).lt = (fcBk xs).1 ∧ (cvL xs).ll = (fcBk xs).2 := by
  obtain ⟨h1, h2⟩ := cv_lin xs cv0
  unfold cvL
  rw [h1, h2]
  simp [cv0]
theorem cv_take {xs : List Int} {k : Nat} (hk : k < xs.length) : cvL (xs.take (k + 1)) = (cvL (xs.take k)).step (xs.getD k 0) := by
  have e2 : xs.getD k 0 = xs[k] := by simp [hk]
  unfold cvL
  rw [List.take_succ_eq_append_getElem hk, List.foldl_append, e2]
  rfl
/-- What a convergent keeps, by the chain's first quotient. -/
def CvI (q0 : Int) (c : Cv) : Prop := 1 ≤ c.ll ∧ 0 ≤ c.bl ∧ 0 ≤ c.lt - q0 * c.ll ∧ c.lt - q0 * c.ll ≤ c.ll ∧ 0 ≤ c.bt - q0 * c.bl ∧ (c.lt - q0 * c.ll) + (c.bt - q0 * c.bl) ≤ c.ll + c.bl
theorem cvI_one (q0 : Int) : CvI q0 (cv0.step q0) := by
  unfold CvI
  simp [Cv.step, cv0]
theorem cvI_step {q0 q : Int} {c : Cv} (h : CvI q0 c) (hq : 1 ≤ q) : CvI q0 (c.step q) ∧ c.ll ≤ (c.step q).ll := by
  obtain ⟨h1, h2, h3, h4, h5, h6⟩ := h
  have e : (c.step q).lt - q0 * (c.step q).ll = q * (c.lt - q0 * c.ll) + (c.bt - q0 * c.bl) := by
    show q * c.lt + c.bt - q0 * (q * c.ll + c.bl) = _
    rw [Int.mul_add, Int.mul_sub, ← Int.mul_assoc, ← Int.mul_assoc, Int.mul_comm q0 q]; omega
  have m1 := Int.mul_le_mul_of_nonneg_right hq (show 0 ≤ c.ll by omega)
  have m2 := Int.mul_le_mul_of_nonneg_right hq h3
  have m3 := Int.mul_le_mul_of_nonneg_left h4 (show 0 ≤ q - 1 by omega)
  rw [Int.sub_mul, Int.sub_mul] at m3
  unfold CvI
  rw [e]
  simp only [Cv.step]
  generalize c.lt - q0 * c.ll = r at *
  generalize c.bt - q0 * c.bl = s at *
  generalize q * c.ll = u at *
  generalize q * r = v at *
  omega
/-- Behind the first, the quotients of a fraction are at least 1. -/
theorem chain_pos : ∀ (k : Nat) (a b : Int), 0 < b → k + 1 < (chainL a b).length → 1 ≤ (chainL a b).getD (k + 1) 0 := by
  intro k
  induction k with
  | zero =>
    intro a b hb hk
    have e := emod_bd' a hb
    rw [chainL_pos hb] at hk ⊢
    rcases (by omega : a % b = 0 ∨ 0 < a % b) with h0 | hp
    · rw [h0, chainL_zero] at hk; simp at hk
    · show 1 ≤ (chainL b (a % b)).getD 0 0
      rw [chainL_pos hp]
      show 1 ≤ b / (a % b)
      rw [Int.le_ediv_iff_mul_le hp]
      omega
  | succ k ih =>
    intro a b hb hk
    have e := emod_bd' a hb
    rw [chainL_pos hb] at hk ⊢
    rcases (by omega : a % b = 0 ∨ 0 < a % b) with h0 | hp
    · rw [h0, chainL_zero] at hk; simp at hk
    · exact ih b (a % b) hp (by simpa using hk)
theorem cvI_take {a b : Int} (hb : 0 < b) : ∀ k, k < (chainL a b).length → CvI (a / b) (cvL ((chainL a b).take (k + 1)))
  | 0, h => by
    rw [cv_take h]
    rw [chainL_pos hb]
    exact cvI_one _
  | k + 1, h => by
    rw [cv_take h]
    exact (cvI_step (cvI_take hb k (by omega)) (chain_pos k a b hb h)).1
theorem cv_low_le : ∀ (m k : Nat) (a b : Int), 0 < b → k < (chainL a b).length → k + m < (chainL a b).length → (cvL ((chainL a b).take (k + 1))).ll ≤ (cvL ((chainL a b).take (k + m + 1))).ll
  | 0, _, _, _, _, _, _ => Int.le_refl _
  | m + 1, k, a, b, hb, hk, hm => by
    have h := cv_low_le m k a b hb hk (by omega)
    have h2 := (cvI_step (cvI_take (a := a) hb (k + m) (by omega)) (chain_pos (k + m) a b hb (by omega))).2
    have e : k + (m + 1) + 1 = (k + m + 1) + 1 := by omega
    rw [e, cv_take (xs := chainL a b) (k := k + m + 1) (by omega)]
    omega
/-- Every convergent of a good chain stays in its bounds. -/
theorem good_f {xs : List Int} (h : fcGood xs) {k : Nat} (hk : k < xs.length) : (-1000000 ≤ xs.getD k 0 ∧ xs.getD k 0 ≤ 1000000) ∧ -2000000000000 ≤ (cvL (xs.take (k + 1))).lt ∧ (cvL (xs.take (k + 1))).lt ≤ 2000000000000 ∧ 1 ≤ (cvL (xs.take (k + 1))).ll ∧ (cvL (xs.take (k + 1))).ll ≤ 1000000 := by
  have hb := (good_b h hk).1
  obtain ⟨h1, h2⟩ := fcGood_ok h
  obtain ⟨g1, g2, g3, g4, g5⟩ := frOk_mk h1
  have hl := cv_back xs
  generalize (fcBk xs).1 = a at *
  generalize (fcBk xs).2 = b at *
  subst h2
  have hI := cvI_take (a := a) (b := b) (by omega) k hk
  have hle := cv_low_le ((chainL a b).length - 1 - k) k a b (by omega) hk (by omega)
  rw [show k + ((chainL a b).length - 1 - k) + 1 = (chainL a b).length by omega, List.take_length, hl.2] at hle
  have q := ediv_abs (a := a) (b := b) (M := 1000000) (by omega) (by omega) (by omega) (by omega)
  refine ⟨hb, ?_⟩
  obtain ⟨i1, i2, i3, i4, -, -⟩ := hI
  have p := prod_bd (q := a / b) (x := (cvL ((chainL a b).take (k + 1))).ll) (y := 0) q.1 q.2 (by omega) (by omega) (by omega) (by omega)
  generalize a / b * (cvL ((chainL a b).take (k + 1))).ll = u at *
  omega
theorem chain_last : ∀ (k : Nat) (a b : Int), 0 < b → (chainL a b).length = k + 2 → 2 ≤ (chainL a b).getD (k + 1) 0 := by
  intro k
  induction k with
  | zero =>
    intro a b hb hl
    have e := emod_bd' a hb
    rw [chainL_pos hb] at hl ⊢
    rcases (by omega : a % b = 0 ∨ 0 < a % b) with h0 | hp
    · rw [h0, chainL_zero] at hl; simp at hl
    · rw [chainL_pos hp] at hl ⊢
      have e2 := emod_bd' b hp
      rcases (by omega : b % (a % b) = 0 ∨ 0 < b % (a % b)) with h1 | hp2
      · show 2 ≤ b / (a % b)
        have s := Int.mul_ediv_add_emod b (a % b)
        have e3 := e.2
        generalize a % b = r at *
        rw [Int.le_ediv_iff_mul_le hp]
        rcases (by omega : b / r ≤ 1 ∨ 2 ≤ b / r) with h | h
        · have := Int.mul_le_mul_of_nonneg_left h (Int.le_of_lt hp)
          omega
        · have := Int.mul_le_mul_of_nonneg_left h (Int.le_of_lt hp)
          omega
      · rw [chainL_pos hp2] at hl; simp at hl
  | succ k ih =>
    intro a b hb hl
    have e := emod_bd' a hb
    rw [chainL_pos hb] at hl ⊢
    rcases (by omega : a % b = 0 ∨ 0 < a % b) with h0 | hp
    · rw [h0, chainL_zero] at hl; simp at hl
    · exact ih b (a % b) hp (by simpa using hl)
def fibo : Nat → Int
  | 0 => 1
  | 1 => 1
  | n + 2 => fibo (n + 1) + fibo n
theorem chain_fib : ∀ (n : Nat) (a b : Int), 0 < b → n + 1 ≤ (chainL a b).length → fibo n ≤ b
  | 0, a, b, hb, _ => by show (1 : Int) ≤ b; omega
  | 1, a, b, hb, _ => by show (1 : Int) ≤ b; omega
  | n + 2, a, b, hb, hl => by
    have e := emod_bd' a hb
    rw [chainL_pos hb] at hl
    rcases (by omega : a % b = 0 ∨ 0 < a % b) with h0 | hp
    · rw [h0, chainL_zero] at hl; simp at hl
    · have h1 := chain_fib (n + 1) b (a % b) hp (by simpa using hl)
      have e2 := emod_bd' b hp
      rw [chainL_pos hp] at hl
      rcases (by omega : b % (a % b) = 0 ∨ 0 < b % (a % b)) with h0 | hp2
      · rw [h0, chainL_zero] at hl; simp at hl
      · have h2 := chain_fib n (a % b) (b % (a % b)) hp2 (by simpa using hl)
        show fibo (n + 1) + fibo n ≤ b
        have s := Int.mul_ediv_add_emod b (a % b)
        have e3 := e.2
        generalize a % b = r at *
        rcases (by omega : b / r ≤ 0 ∨ 1 ≤ b / r) with h | h
        · have := Int.mul_le_mul_of_nonneg_left h (Int.le_of_lt hp)
          omega
        · have := Int.mul_le_mul_of_nonneg_left h (Int.le_of_lt hp)
          omega
theorem chain_len40 {a b : Int} (hb : 0 < b) (h : b ≤ 1000000) : (chainL a b).length ≤ 40 := by
  rcases Nat.lt_or_ge 40 (chainL a b).length with hl | hl
  · have := chain_fib 40 a b hb hl
    have e : fibo 40 = 165580141 := by decide
    omega
  · exact hl
/-- A chain with one more, 1, is none. -/
theorem more_bad {xs : List Int} (h : fcGood xs) : ¬ fcGood (xs ++ [1]) := by
  intro h'
  obtain ⟨h1, h2⟩ := fcGood_ok h'
  obtain ⟨g1, g2, g3, g4, g5⟩ := frOk_mk h1
  have hl : 1 ≤ xs.length := h.1.1
  have := chain_last (xs.length - 1) (fcBk (xs ++ [1])).1 (fcBk (xs ++ [1])).2 (by omega) (by rw [h2]; simp; omega)
  rw [h2, show xs.length - 1 + 1 = xs.length by omega] at this
  simp at this
/-- The fractions of a chain's beginnings. -/
def nearL (xs : List Int) : List (Int × Int) := (List.range xs.length).map fun k => ((cvL (xs.take (k + 1))).lt, (cvL (xs.take (k + 1))).ll)
theorem nearL_len (xs : List Int) : (nearL xs).length = xs.length := by simp [nearL]
theorem nearL_get {xs : List Int} {k : Nat} (h : k < xs.length) : (nearL xs)[k]? = some ((cvL (xs.take (k + 1))).lt, (cvL (xs.take (k + 1))).ll) := by simp [nearL, h]
theorem cv_det : ∀ (zs : List Int) (c : Cv), (zs.foldl Cv.step c).lt * (zs.foldl Cv.step c).bl - (zs.foldl Cv.step c).bt * (zs.foldl Cv.step c).ll = (if zs.length % 2 = 0 then 1 else -1) * (c.lt * c.bl - c.bt * c.ll)
  | [], c => by simp
  | q :: t, c => by
    rw [List.foldl_cons, cv_det t (c.step q)]
    have e : (c.step q).lt * (c.step q).bl - (c.step q).bt * (c.step q).ll = -(c.lt * c.bl - c.bt * c.ll) := by
      show (q * c.lt + c.bt) * c.ll - c.lt * (q * c.ll + c.bl) = _
      rw [Int.add_mul, Int.mul_add, ← Int.mul_assoc, Int.mul_comm q c.lt]; omega
    rw [e]
    have : (q :: t).length = t.length + 1 := rfl
    rw [this]
    rcases (by omega : t.length % 2 = 0 ∨ t.length % 2 = 1) with h | h
    · rw [if_pos h, if_neg (by omega)]; omega
    · rw [if_neg (by omega), if_pos (by omega)]; omega
/-- Two that follow each other differ by 1 across. -/
theorem near_det {xs : List Int} {k : Nat} (h : k + 1 < xs.length) : (cvL (xs.take (k + 2))).lt * (cvL (xs.take (k + 1))).ll - (cvL (xs.take (k + 1))).lt * (cvL (xs.take (k + 2))).ll = if k % 2 = 0 then 1 else -1 := by
  have d := cv_det (xs.take (k + 2)) cv0
  have e : (xs.take (k + 2)).length = k + 2 := by rw [List.length_take]; omega
  have s := cv_take (xs := xs) (k := k + 1) h
  have b1 : (cvL (xs.take (k + 2))).bl = (cvL (xs.take (k + 1))).ll := by rw [s]; rfl
  have b2 : (cvL (xs.take (k + 2))).bt = (cvL (xs.take (k + 1))).lt := by rw [s]; rfl
  rw [e] at d
  change (cvL (xs.take (k + 2))).lt * (cvL (xs.take (k + 2))).bl - (cvL (xs.take (k + 2))).bt * (cvL (xs.take (k + 2))).ll = _ at d
  rw [b1, b2] at d
  rw [d]
  have c : cv0.lt * cv0.bl - cv0.bt * cv0.ll = 1 := rfl
  rw [c]
  rcases (by omega : k % 2 = 0 ∨ k % 2 = 1) with h | h
  · rw [if_pos (by omega), if_pos h]; rfl
  · rw [if_neg (by omega), if_neg (by omega)]; rfl
/-- The bounds of a valid fraction's convergents. -/
theorem near_bd {a b : Int} (h : frOk a b = true) {k : Nat} (hk : k < (chainL a b).length) : (-1000000 ≤ (chainL a b).getD k 0 ∧ (chainL a b).getD k 0 ≤ 1000000) ∧ -2000000000000 ≤ (cvL ((chainL a b).take (k + 1))).lt ∧ (cvL ((chainL a b).take (k + 1))).lt ≤ 2000000000000 ∧ 1 ≤ (cvL ((chainL a b).take (k + 1))).ll ∧ (cvL ((chainL a b).take (k + 1))).ll ≤ 1000000 := by
  obtain ⟨h1, h2, h3, h4, h5⟩ := frOk_mk h
  exact good_f (chain_good h (chain_len40 (by omega) h4)).1 hk
theorem near_last {a b : Int} (h : frOk a b = true) : (cvL ((chainL a b).take (chainL a b).length)).lt = a ∧ (cvL ((chainL a b).take (chainL a b).length)).ll = b := by
  obtain ⟨h1, h2, h3, h4, h5⟩ := frOk_mk h
  have e := (chain_good h (chain_len40 (by omega) h4)).2
  rw [List.take_length]
  have c := cv_back (chainL a b)
  rw [e] at c
  exact c
theorem near_low {a b : Int} (h : frOk a b = true) {k : Nat} (hk : k + 1 < (chainL a b).length) : (cvL ((chainL a b).take (k + 1))).ll ≤ (cvL ((chainL a b).take (k + 2))).ll := by
  obtain ⟨h1, h2, h3, h4, h5⟩ := frOk_mk h
  exact cv_low_le 1 k a b (by omega) (by omega) hk
end Go.Proofs.Ytdpekaejklmomaa

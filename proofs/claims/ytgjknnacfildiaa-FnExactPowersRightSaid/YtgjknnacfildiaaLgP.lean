/- Long numbers: lists of digits to the base 10000, their value, and what the loops of multiplication hold. No condition: plain laws. -/
import Derived.Test.YtgjknnacfildiaaRows
namespace Go.Proofs.Ytgjknnacfildiaa

def lgV : List Int → Int
  | [] => 0
  | x :: l => x + 10000 * lgV l
def LgD (l : List Int) : Prop := ∀ k, k < l.length → 0 ≤ l.getD k 0 ∧ l.getD k 0 < 10000
def pB : Nat → Int
  | 0 => 1
  | k + 1 => 10000 * pB k
theorem pB_pos : ∀ k, 0 < pB k
  | 0 => by decide
  | k + 1 => by have := pB_pos k; simp only [pB]; omega
theorem pB_add (i : Nat) : ∀ j, pB (i + j) = pB i * pB j
  | 0 => by simp [pB]
  | j + 1 => by have := pB_add i j; show 10000 * pB (i + j) = _; simp only [pB]; grind
theorem pB_mono {i j : Nat} (h : i ≤ j) : pB i ≤ pB j := by
  obtain ⟨d, rfl⟩ := Nat.exists_eq_add_of_le h
  have h1 := pB_pos d
  have h2 := pB_pos i
  rw [pB_add]
  calc pB i = pB i * 1 := (Int.mul_one _).symm
    _ ≤ pB i * pB d := Int.mul_le_mul_of_nonneg_left (by omega) (by omega)
theorem lgV_set : ∀ (l : List Int) (k : Nat) (u : Int), k < l.length → lgV (l.set k u) = lgV l + (u - l.getD k 0) * pB k
  | [], k, u, h => by simp at h
  | x :: l, 0, u, h => by simp [lgV, pB]; omega
  | x :: l, k + 1, u, h => by
    have := lgV_set l k u (by simpa using h)
    simp only [List.set_cons_succ, lgV, List.getD_cons_succ, pB]
    rw [this]; grind
theorem lgV_take : ∀ (l : List Int) (k : Nat), k < l.length → lgV (l.take (k + 1)) = lgV (l.take k) + l.getD k 0 * pB k
  | [], k, h => by simp at h
  | x :: l, 0, h => by simp [lgV, pB]
  | x :: l, k + 1, h => by
    have := lgV_take l k (by simpa using h)
    simp only [List.take_succ_cons, lgV, List.getD_cons_succ, pB]
    rw [this]; grind
theorem lgV_zeros : ∀ n, lgV (List.replicate n 0) = 0
  | 0 => rfl
  | n + 1 => by rw [List.replicate_succ, lgV, lgV_zeros n]; rfl
theorem LgD.tail {x : Int} {l : List Int} (h : LgD (x :: l)) : LgD l := fun k hk => by have := h (k + 1) (by simpa using hk); simpa using this
theorem LgD.head {x : Int} {l : List Int} (h : LgD (x :: l)) : 0 ≤ x ∧ x < 10000 := by have := h 0 (by simp); simpa using this
theorem LgD.cons {x : Int} {l : List Int} (h0 : 0 ≤ x ∧ x < 10000) (h : LgD l) : LgD (x :: l) := fun k hk => by
  cases k with
  | zero => simpa using h0
  | succ k => have := h k (by simpa using hk); simpa using this
theorem lgV_bd : ∀ (l : List Int), LgD l → 0 ≤ lgV l ∧ lgV l < pB l.length
  | [], _ => by simp [lgV, pB]
  | x :: l, h => by
    have h1 := lgV_bd l h.tail
    have h2 := h.head
    simp only [lgV, List.length_cons, pB]
    omega
theorem lgV_nn : ∀ (l : List Int), (∀ k, k < l.length → 0 ≤ l.getD k 0) → 0 ≤ lgV l
  | [], _ => by simp [lgV]
  | x :: l, h => by
    have h1 := lgV_nn l (fun k hk => by have := h (k + 1) (by simpa using hk); simpa using this)
    have h2 : 0 ≤ x := by have := h 0 (by simp); simpa using this
    simp only [lgV]; omega
def digs (n : Int) : List Int := if _h : 0 < n then n % 10000 :: digs (n / 10000) else []
  termination_by n.toNat
  decreasing_by omega
theorem digs_pos {n : Int} (h : 0 < n) : digs n = n % 10000 :: digs (n / 10000) := by rw [digs, dif_pos h]
theorem digs_nil {n : Int} (h : n ≤ 0) : digs n = [] := by rw [digs, dif_neg (by omega)]
theorem digs_ind {P : Int → Prop} (h0 : P 0) (h1 : ∀ n, 0 < n → P (n / 10000) → P n) : ∀ n, 0 ≤ n → P n := by
  intro n hn
  induction h : n.toNat using Nat.strongRecOn generalizing n with
  | _ k ih =>
    rcases Int.lt_or_le 0 n with h2 | h2
    · exact h1 n h2 (ih (n / 10000).toNat (by omega) _ (by omega) rfl)
    · have : n = 0 := by omega
      subst this; exact h0
theorem lgV_digs : ∀ n, 0 ≤ n → lgV (digs n) = n := digs_ind (by rw [digs_nil (by omega)]; rfl) fun n h ih => by
  rw [digs_pos h, lgV, ih]; omega
theorem digs_dig : ∀ n, 0 ≤ n → LgD (digs n) := digs_ind (by rw [digs_nil (by omega)]; intro k hk; simp at hk) fun n h ih => by
  rw [digs_pos h]; exact LgD.cons (by omega) ih
theorem digs_ne {n : Int} (h : 0 < n) : 0 < (digs n).length := by rw [digs_pos h]; simp
theorem digs_last : ∀ n, 0 ≤ n → 0 < (digs n).length → 0 < (digs n).getD ((digs n).length - 1) 0 := digs_ind (by rw [digs_nil (by omega)]; simp) fun n h ih => by
  intro _
  rw [digs_pos h]
  rcases Int.lt_or_le 0 (n / 10000) with h2 | h2
  · have h3 := digs_ne h2
    have h4 := ih h3
    obtain ⟨m, hm⟩ : ∃ m, (digs (n / 10000)).length = m + 1 := ⟨_, (Nat.succ_pred_eq_of_pos h3).symm⟩
    rw [hm] at h4
    simp only [List.length_cons, hm, Nat.add_sub_cancel, List.getD_cons_succ] at h4 ⊢
    exact h4
  · rw [digs_nil h2]; simp; omega
theorem digs_len : ∀ n, 0 ≤ n → ∀ k, (digs n).length ≤ k ↔ n < pB k := digs_ind (fun k => by rw [digs_nil (by omega)]; have := pB_pos k; simp; omega) fun n h ih k => by
  rw [digs_pos h]
  cases k with
  | zero => simp [pB]; omega
  | succ k => have := ih k; simp only [List.length_cons, pB]; omega
theorem digs_of : ∀ l : List Int, LgD l → (0 < l.length → 0 < l.getD (l.length - 1) 0) → digs (lgV l) = l
  | [], _, _ => by rw [lgV, digs_nil (by omega)]
  | x :: l, h, hl => by
    have ih := digs_of l h.tail (fun h0 => by
      have := hl (by simp)
      obtain ⟨m, hm⟩ : ∃ m, l.length = m + 1 := ⟨_, (Nat.succ_pred_eq_of_pos h0).symm⟩
      simp only [List.length_cons, hm, Nat.add_sub_cancel, List.getD_cons_succ] at this ⊢
      exact this)
    have h1 := h.head
    have h2 := (lgV_bd l h.tail).1
    have h3 : 0 < x + 10000 * lgV l := by
      rcases Int.lt_or_le 0 (lgV l) with h4 | h4
      · omega
      · have h5 : lgV l = 0 := by omega
        rw [h5, digs_nil (by omega)] at ih
        subst ih
        have := hl (by simp)
        simp at this
        simp [lgV]; omega
    rw [lgV, digs_pos h3, show (x + 10000 * lgV l) % 10000 = x by omega, show (x + 10000 * lgV l) / 10000 = lgV l by omega, ih]
theorem lgV_cut : ∀ (l : List Int) (e : Nat), (∀ k, e ≤ k → k < l.length → l.getD k 0 = 0) → lgV (l.take e) = lgV l
  | [], e, _ => by simp
  | x :: l, 0, h => by
    have := lgV_cut l 0 (fun k _ hk => by have := h (k + 1) (by omega) (by simpa using hk); simpa using this)
    have h0 := h 0 (by omega) (by simp)
    simp only [List.getD_cons_zero] at h0
    simp only [List.take_zero, lgV] at this ⊢
    omega
  | x :: l, e + 1, h => by
    have := lgV_cut l e (fun k hk1 hk => by have := h (k + 1) (by omega) (by simpa using hk); simpa using this)
    simp only [List.take_succ_cons, lgV, this]
/-- What is left when the zeros at the end are cut. -/
theorem digs_cut {l : List Int} (h : LgD l) {e : Nat} (he : e ≤ l.length) (hz : ∀ k, e ≤ k → k < l.length → l.getD k 0 = 0) (hl : 0 < e → l.getD (e - 1) 0 ≠ 0) : l.take e = digs (lgV l) := by
  have hlen : (l.take e).length = e := by simp; omega
  have hg : ∀ k, k < e → (l.take e).getD k 0 = l.getD k 0 := fun k hk => by simp [List.getD_eq_getElem?_getD, hk]
  rw [← lgV_cut l e hz]
  refine (digs_of _ (fun k hk => ?_) (fun h0 => ?_)).symm
  · rw [hg k (by omega)]; exact h k (by omega)
  · rw [hlen, hg _ (by omega)]
    have h1 := hl (by omega)
    have h2 := (h (e - 1) (by omega)).1
    omega
theorem LgD.set {l : List Int} (h : LgD l) (k : Nat) {u : Int} (hu : 0 ≤ u ∧ u < 10000) : LgD (l.set k u) := fun j hj => by
  have hj' : j < l.length := by simpa using hj
  by_cases e : k = j
  · subst e; simp [List.getD_eq_getElem?_getD, hj']; exact hu
  · have := h j hj'; simpa [List.getD_eq_getElem?_getD, e] using this
theorem set_getD {l : List Int} {k j : Nat} {u : Int} (hj : j < l.length) : (l.set k u).getD j 0 = if k = j then u else l.getD j 0 := by
  by_cases e : k = j
  · subst e; simp [List.getD_eq_getElem?_getD, hj]
  · simp [List.getD_eq_getElem?_getD, e]
/-- The program's product: what the rounds hold. -/
def MulIn (a b : List Int) (i j : Nat) (c : Int) (P : List Int) : Prop :=
  P.length = a.length + b.length ∧ LgD P ∧ (0 ≤ c ∧ c < 10000) ∧ (∀ k, i + b.length ≤ k → k < P.length → P.getD k 0 = 0) ∧
  lgV P + c * pB (i + j) = lgV (a.take i) * lgV b + a.getD i 0 * lgV (b.take j) * pB i
def MulOut (a b : List Int) (i : Nat) (P : List Int) : Prop :=
  P.length = a.length + b.length ∧ LgD P ∧ (∀ k, i + b.length ≤ k → k < P.length → P.getD k 0 = 0) ∧ lgV P = lgV (a.take i) * lgV b
theorem mul_start (a b : List Int) : MulOut a b 0 (List.replicate (a.length + b.length) 0) :=
  ⟨by simp, fun k hk => by simp at hk; simp [List.getD_eq_getElem?_getD, hk], fun k _ hk => by simp at hk; simp [List.getD_eq_getElem?_getD, hk], by rw [lgV_zeros]; simp [lgV]⟩
theorem mul_in {a b P : List Int} {i : Nat} (h : MulOut a b i P) : MulIn a b i 0 0 P :=
  ⟨h.1, h.2.1, by omega, h.2.2.1, by rw [h.2.2.2]; simp [lgV]⟩
theorem mul_bd {x y : Int} (hx : 0 ≤ x ∧ x < 10000) (hy : 0 ≤ y ∧ y < 10000) : 0 ≤ x * y ∧ x * y ≤ 99980001 := by
  refine ⟨Int.mul_nonneg hx.1 hy.1, ?_⟩
  calc x * y ≤ 9999 * y := Int.mul_le_mul_of_nonneg_right (by omega) hy.1
    _ ≤ 9999 * 9999 := Int.mul_le_mul_of_nonneg_left (by omega) (by omega)
theorem mul_alg {v c Q A x T y pi pj d r p : Int} (h5 : v + c * Q = A + x * T * pi) (hQ : Q = pi * pj) (ht : 10000 * d + r = c + (p + x * y)) : v + (r - p) * Q + d * (10000 * Q) = A + x * (T + y * pj) * pi := by
  have e : v + (r - p) * Q + d * (10000 * Q) = v + (10000 * d + r - p) * Q := by grind
  rw [e, ht, show c + (p + x * y) - p = c + x * y by omega]
  subst hQ
  grind
theorem mul_round {a b P : List Int} {i j : Nat} {c : Int} (ha : LgD a) (hb : LgD b) (hi : i < a.length) (hj : j < b.length) (h : MulIn a b i j c P) :
    let t := c + (P.getD (i + j) 0 + a.getD i 0 * b.getD j 0)
    (0 ≤ t ∧ t ≤ 99999999) ∧ MulIn a b i (j + 1) (t / 10000) (P.set (i + j) (t % 10000)) := by
  obtain ⟨h1, h2, h3, h4, h5⟩ := h
  have hp := h2 (i + j) (by omega)
  have hx := ha i hi
  have hy := hb j hj
  have hxy := mul_bd hx hy
  intro t
  have ht : t = c + (P.getD (i + j) 0 + a.getD i 0 * b.getD j 0) := rfl
  have hs := lgV_set P (i + j) (t % 10000) (by omega)
  have hv := lgV_take b j hj
  have hpB : pB (i + (j + 1)) = 10000 * pB (i + j) := rfl
  have hpa := pB_add i j
  clear_value t
  refine ⟨by omega, by simpa using h1, h2.set _ (by omega), by omega, fun k hk1 hk2 => ?_, ?_⟩
  · rw [List.length_set] at hk2
    rw [set_getD hk2, if_neg (by omega)]
    exact h4 k hk1 hk2
  · rw [hs, hv, hpB]
    have e1 : t = 10000 * (t / 10000) + t % 10000 := by omega
    exact mul_alg h5 hpa (e1.symm.trans ht)
theorem mul_close {a b P : List Int} {i : Nat} {c : Int} (hi : i < a.length) (h : MulIn a b i b.length c P) : MulOut a b (i + 1) (P.set (i + b.length) c) := by
  obtain ⟨h1, h2, h3, h4, h5⟩ := h
  have hs := lgV_set P (i + b.length) c (by omega)
  have hz := h4 (i + b.length) (Nat.le_refl _) (by omega)
  have hv := lgV_take a i hi
  refine ⟨by simpa using h1, h2.set _ h3, fun k hk1 hk2 => ?_, ?_⟩
  · rw [List.length_set] at hk2
    rw [set_getD hk2, if_neg (by omega)]
    exact h4 k (by omega) hk2
  · rw [hs, hz, hv]
    rw [List.take_length] at h5
    grind
theorem mul_end {a b P : List Int} (h : MulOut a b a.length P) : lgV P = lgV a * lgV b := by have := h.2.2.2; rwa [List.take_length] at this
/-- The reference's product: sums first, carries behind. -/
def SumIn (a b : List Int) (i j : Nat) (P : List Int) : Prop :=
  P.length = a.length + b.length + 1 ∧ (∀ k, k < P.length → 0 ≤ P.getD k 0 ∧ P.getD k 0 ≤ 100000000 * ((i * b.length + j : Nat) : Int)) ∧
  lgV P = lgV (a.take i) * lgV b + a.getD i 0 * lgV (b.take j) * pB i
theorem sum_start (a b : List Int) : SumIn a b 0 0 (List.replicate (a.length + b.length + 1) 0) :=
  ⟨by simp, fun k hk => by simp at hk; simp [List.getD_eq_getElem?_getD, hk], by rw [lgV_zeros]; simp [lgV]⟩
theorem sum_bd {a b P : List Int} {i j : Nat} (h : SumIn a b i j P) (hi : i ≤ 60) (hj : j ≤ b.length) (hb : b.length ≤ 60) (k : Nat) (hk : k < P.length) : 0 ≤ P.getD k 0 ∧ P.getD k 0 ≤ 366000000000 := by
  have := h.2.1 k hk
  have h2 : i * b.length ≤ 60 * 60 := Nat.mul_le_mul hi hb
  generalize i * b.length = z at *
  omega
theorem sum_round {a b P : List Int} {i j : Nat} (ha : LgD a) (hb : LgD b) (hi : i < a.length) (hj : j < b.length) (h : SumIn a b i j P) : SumIn a b i (j + 1) (P.set (i + j) (P.getD (i + j) 0 + a.getD i 0 * b.getD j 0)) := by
  obtain ⟨h1, h2, h3⟩ := h
  have hxy := mul_bd (ha i hi) (hb j hj)
  have hs := lgV_set P (i + j) (P.getD (i + j) 0 + a.getD i 0 * b.getD j 0) (by omega)
  have hv := lgV_take b j hj
  have hpa := pB_add i j
  refine ⟨by simpa using h1, fun k hk => ?_, ?_⟩
  · rw [List.length_set] at hk
    have := h2 k hk
    rw [set_getD hk]
    generalize i * b.length = z at *
    split
    · rename_i e; subst e; omega
    · omega
  · rw [hs, hv, h3, hpa]
    clear hs hv h3 hpa h2 h1 hxy ha hb
    generalize a.getD i 0 = x
    generalize b.getD j 0 = y
    generalize P.getD (i + j) 0 = p
    grind
theorem sum_next {a b P : List Int} {i : Nat} (hi : i < a.length) (h : SumIn a b i b.length P) : SumIn a b (i + 1) 0 P := by
  obtain ⟨h1, h2, h3⟩ := h
  have hv := lgV_take a i hi
  refine ⟨h1, fun k hk => ?_, ?_⟩
  · have := h2 k hk
    rw [Nat.succ_mul]
    exact this
  · rw [h3, hv, List.take_length]; simp [lgV]; grind
/-- The carries, up to k. -/
def CarryIn (n : Nat) (V : Int) (k : Nat) (P : List Int) : Prop :=
  P.length = n + 1 ∧ lgV P = V ∧ (∀ x, x < P.length → 0 ≤ P.getD x 0 ∧ P.getD x 0 ≤ 400000000000 + (if x = k then 400000000000 else 0)) ∧ (∀ x, x < k → x < P.length → P.getD x 0 < 10000)
theorem carry_start {a b P : List Int} (h : SumIn a b a.length 0 P) (hn : a.length ≤ 60) (hb : b.length ≤ 60) : CarryIn (a.length + b.length) (lgV a * lgV b) 0 P :=
  ⟨h.1, by have := h.2.2; rw [List.take_length] at this; rw [this]; simp [lgV], fun x hx => by have := sum_bd h hn (Nat.zero_le _) hb x hx; split <;> omega, fun x hx => by omega⟩
theorem carry_round {n k : Nat} {V : Int} {P : List Int} (hk : k < n) (h : CarryIn n V k P) :
    CarryIn n V (k + 1) ((P.set (k + 1) (P.getD (k + 1) 0 + P.getD k 0 / 10000)).set k (P.getD k 0 % 10000)) := by
  obtain ⟨h1, h2, h3, h4⟩ := h
  have a1 := h3 k (by omega)
  have a2 := h3 (k + 1) (by omega)
  rw [if_pos rfl] at a1
  rw [if_neg (by omega)] at a2
  refine ⟨by simpa using h1, ?_, fun x hx => ?_, fun x hx1 hx => ?_⟩
  · rw [lgV_set _ _ _ (by simp; omega), lgV_set _ _ _ (by omega), set_getD (by omega), if_neg (by omega), h2]
    have hpB : pB (k + 1) = 10000 * pB k := rfl
    rw [hpB]
    have e1 : P.getD k 0 = 10000 * (P.getD k 0 / 10000) + P.getD k 0 % 10000 := by omega
    generalize P.getD k 0 / 10000 = d at *
    generalize P.getD k 0 % 10000 = r at *
    rw [e1]; grind
  · simp only [List.length_set] at hx
    have a3 := h3 x hx
    rw [set_getD (by simpa using hx), set_getD hx]
    split
    · split <;> omega
    · split
      · rename_i e; subst e; rw [if_pos rfl]; omega
      · rw [if_neg (by omega)] at a3 ⊢; omega
  · simp only [List.length_set] at hx
    rw [set_getD (by simpa using hx), set_getD hx]
    split
    · omega
    · rw [if_neg (by omega)]; exact h4 x (by omega) hx
theorem lgV_top : ∀ (l : List Int) (n : Nat), l.length = n + 1 → (∀ k, k < l.length → 0 ≤ l.getD k 0) → l.getD n 0 * pB n ≤ lgV l
  | [], n, h, _ => by simp at h
  | [x], 0, _, h => by simp [lgV, pB]
  | x :: y :: l, 0, h, _ => by simp at h
  | x :: l, n + 1, h, hp => by
    have := lgV_top l n (by simpa using h) (fun k hk => by have := hp (k + 1) (by simpa using hk); simpa using this)
    have h0 : 0 ≤ x := by have := hp 0 (by simp); simpa using this
    simp only [List.getD_cons_succ, pB, lgV]
    have : l.getD n 0 * (10000 * pB n) = 10000 * (l.getD n 0 * pB n) := by grind
    omega
theorem carry_end {n : Nat} {V : Int} {P : List Int} (hV : V < pB n) (h : CarryIn n V n P) : LgD P ∧ lgV P = V := by
  obtain ⟨h1, h2, h3, h4⟩ := h
  have ht := lgV_top P n h1 (fun k hk => (h3 k hk).1)
  have h0 : P.getD n 0 = 0 := by
    have a := (h3 n (by omega)).1
    have hp := pB_pos n
    rcases Int.lt_or_le 0 (P.getD n 0) with h5 | h5
    · have : 1 * pB n ≤ P.getD n 0 * pB n := Int.mul_le_mul_of_nonneg_right (by omega) (by omega)
      omega
    · omega
  refine ⟨fun k hk => ⟨(h3 k hk).1, ?_⟩, h2⟩
  by_cases e : k = n
  · subst e; omega
  · exact h4 k (by omega) hk
theorem mul_lt {a b : List Int} (ha : LgD a) (hb : LgD b) : lgV a * lgV b < pB (a.length + b.length) := by
  have h1 := lgV_bd a ha
  have h2 := lgV_bd b hb
  rw [pB_add]
  rcases Int.lt_or_le 0 (lgV b) with h | h
  · calc lgV a * lgV b < pB a.length * lgV b := Int.mul_lt_mul_of_pos_right h1.2 h
      _ ≤ pB a.length * pB b.length := Int.mul_le_mul_of_nonneg_left (by omega) (by have := pB_pos a.length; omega)
  · have : lgV b = 0 := by omega
    rw [this, Int.mul_zero]
    exact Int.mul_pos (pB_pos _) (pB_pos _)
/-- Two long numbers of one length whose digits above k are equal. -/
theorem lg_cmp : ∀ (a b : List Int) (k : Nat), a.length = b.length → k < a.length → LgD a → LgD b → (∀ j, k < j → j < a.length → a.getD j 0 = b.getD j 0) → a.getD k 0 < b.getD k 0 → lgV a < lgV b
  | [], _, k, _, hk, _, _, _, _ => by simp at hk
  | x :: a, [], k, h, _, _, _, _, _ => by simp at h
  | x :: a, y :: b, 0, h, _, ha, hb, he, hl => by
    have e : a = b := by
      refine List.ext_getElem (by simpa using h) fun j h1 h2 => ?_
      have := he (j + 1) (by omega) (by simpa using h1)
      simp only [List.getD_cons_succ] at this
      simpa [List.getD_eq_getElem?_getD, h1, h2] using this
    subst e
    simp at hl
    simp only [lgV]; omega
  | x :: a, y :: b, k + 1, h, hk, ha, hb, he, hl => by
    have := lg_cmp a b k (by simpa using h) (by simpa using hk) ha.tail hb.tail (fun j h1 h2 => by have := he (j + 1) (by omega) (by simpa using h2); simpa using this) (by simpa using hl)
    have h1 := ha.head
    have h2 := hb.head
    simp only [lgV]; omega
theorem digs_eq_of {a b : List Int} (h : a.length = b.length) (he : ∀ j, j < a.length → a.getD j 0 = b.getD j 0) : a = b :=
  List.ext_getElem h fun j h1 h2 => by have := he j h1; simpa [List.getD_eq_getElem?_getD, h1, h2] using this
theorem digs_short {a b : Int} (ha : 0 ≤ a) (hb : 0 ≤ b) (h : (digs a).length < (digs b).length) : a < b := by
  have h1 := (digs_len a ha (digs a).length).1 (Nat.le_refl _)
  have h2 := mt (digs_len b hb (digs a).length).2 (by omega)
  omega

end Go.Proofs.Ytgjknnacfildiaa

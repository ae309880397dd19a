/- What the reference reads of a text, and that texts of stored numbers lead back to them. No condition: plain law. -/
import Derived.Test.YtidnnnjjpjadlaaDoorSx
namespace Go.Proofs.YtidnnnjjpjadlaaDoor
open Go.ChangeShapes Go.WideShapes Go.ChangeAt Go.RowKit

/-- The reference's reading of the whole part: the number, and what is left. -/
def tkW : List UInt8 → Int → Int × List UInt8
  | [], x => (x, [])
  | b :: l, x => if 48 ≤ b.toNat ∧ b.toNat ≤ 57 ∧ x < 100000 then tkW l (10 * x + (b.toNat - 48)) else (x, b :: l)
/-- The reference's reading of the digits behind the point: the number, the scale, and what is left. -/
def tkP : List UInt8 → Int → Int → Int × Int × List UInt8
  | [], x, c => (x, c, [])
  | b :: l, x, c => if 48 ≤ b.toNat ∧ b.toNat ≤ 57 ∧ c < 10000000000000000 then tkP l (10 * x + (b.toNat - 48)) (10 * c) else (x, c, b :: l)
theorem rdN_ge {l : List UInt8} : ∀ {x : Int}, (∀ b ∈ l, isDig b) → 0 ≤ x → x ≤ (rdN l x).1 := by
  induction l with
  | nil => intro x _ _; exact Int.le_refl _
  | cons a l ih =>
    intro x h hx
    have ha := h a (List.mem_cons_self ..)
    unfold isDig at ha
    rw [rdN, if_neg (by omega)]
    have := ih (x := 10 * x + (a.toNat - 48)) (fun b hb => h b (List.mem_cons_of_mem _ hb)) (by omega)
    omega
def headNo (t : List UInt8) : Prop := ∀ b l, t = b :: l → ¬ isDig b
theorem tkW_dig {l t : List UInt8} : ∀ {x : Int}, (∀ b ∈ l, isDig b) → 0 ≤ x → (rdN l x).1 < 100000 → headNo t → tkW (l ++ t) x = ((rdN l x).1, t) := by
  induction l with
  | nil =>
    intro x _ _ _ ht
    rw [List.nil_append]
    cases t with
    | nil => rfl
    | cons b l =>
      have := ht b l rfl
      unfold isDig at this
      rw [tkW, if_neg (by omega)]
      rfl
  | cons a l ih =>
    intro x h hx hl ht
    have ha := h a (List.mem_cons_self ..)
    have hge := rdN_ge h hx
    unfold isDig at ha
    have e : rdN (a :: l) x = rdN l (10 * x + (a.toNat - 48)) := by rw [rdN, if_neg (by omega)]
    rw [e] at hl hge ⊢
    rw [List.cons_append, tkW, if_pos (by omega)]
    exact ih (fun b hb => h b (List.mem_cons_of_mem _ hb)) (by omega) hl ht
theorem tkP_dig {l : List UInt8} : ∀ {x c : Int} {k : Nat}, (∀ b ∈ l, isDig b) → c = 10 ^ k → k + l.length ≤ 16 → tkP l x c = ((rdN l x).1, 10 ^ (k + l.length), []) := by
  induction l with
  | nil => intro x c k _ hc _; rw [hc]; rfl
  | cons a l ih =>
    intro x c k h hc hk
    have ha := h a (List.mem_cons_self ..)
    unfold isDig at ha
    have e : rdN (a :: l) x = rdN l (10 * x + (a.toNat - 48)) := by rw [rdN, if_neg (by omega)]
    have hl : (a :: l).length = l.length + 1 := rfl
    have hlt : (10 : Int) ^ k < 10000000000000000 := by
      have h1 : (10 : Nat) ^ k < 10 ^ 16 := Nat.pow_lt_pow_right (by omega) (by omega)
      have h2 : ((10 ^ k : Nat) : Int) = (10 : Int) ^ k := by rw [Int.natCast_pow]; rfl
      omega
    rw [e, tkP, if_pos (by omega), ih (k := k + 1) (fun b hb => h b (List.mem_cons_of_mem _ hb)) (by rw [hc, Int.pow_succ]; omega) (by omega)]
    rw [hl, Nat.add_right_comm, Nat.add_assoc]
/-- What the reference reads: the sign, and the text behind it. -/
def psSign (l : List UInt8) : Int × List UInt8 := match l with | [] => (1, []) | b :: t => if b = 45 then (-1, t) else (1, b :: t)
/-- The number behind a point, with its scale and what is left; without a point there is none. -/
def psPart (l : List UInt8) : Int × Int × List UInt8 := match l with | [] => (0, 1, []) | b :: t => if b = 46 then tkP t 0 1 else (0, 1, b :: t)
def psW (l : List UInt8) : Int × List UInt8 := tkW (psSign l).2 0
def psR (l : List UInt8) : Int × Int × List UInt8 := psPart (psW l).2
def psN (q : Int) (l : List UInt8) : Int := (psSign l).1 * ((psW l).1 * 2 ^ q.toNat + (psR l).1 * 2 ^ q.toNat / (psR l).2.1)
def psGood (p q : Int) (l : List UInt8) : Prop := (psR l).2.2 = [] ∧ l ≠ [] ∧ sText p q (psN q l) = l
/-- Read by the reference, a magnitude's text leads back to it. -/
theorem mText_ps {q m : Int} (hq : q.toNat ≤ 16) (hm : 0 ≤ m) (hw : m / 2 ^ q.toNat < 100000) :
    tkW (mText q m) 0 = (m / 2 ^ q.toNat, if m % 2 ^ q.toNat = 0 then [] else 46 :: gd q.toNat q.toNat (m % 2 ^ q.toNat)) ∧
    ∃ c, psPart (if m % 2 ^ q.toNat = 0 then [] else 46 :: gd q.toNat q.toNat (m % 2 ^ q.toNat)) = c ∧ c.2.2 = [] ∧ c.1 * 2 ^ q.toNat / c.2.1 = m % 2 ^ q.toNat := by
  have hp := two_pow_pos q.toNat
  have hd := Int.ediv_nonneg hm (Int.le_of_lt hp)
  obtain ⟨r1, u, u0, ru, hu⟩ := mText_read (q := q) hm
  have hg := gr_start (q := q.toNat) (Int.emod_nonneg m (Int.ne_of_gt hp)) (Int.emod_lt_of_pos m hp)
  constructor
  · unfold mText
    rw [tkW_dig (dec_digs hd) (by omega) (by rw [r1]; exact hw) (by
      split
      · intro b l h; cases h
      · intro b l h; injection h with h1; subst h1; unfold isDig; decide), r1]
  · refine ⟨_, rfl, ?_⟩
    split
    · rename_i h0
      rw [h0]
      exact ⟨rfl, by simp [psPart]⟩
    · have hl := gd_len (q := q.toNat) q.toNat (m % 2 ^ q.toNat)
      have e : psPart (46 :: gd q.toNat q.toNat (m % 2 ^ q.toNat)) = tkP (gd q.toNat q.toNat (m % 2 ^ q.toNat)) 0 1 := by unfold psPart; simp
      rw [e, tkP_dig (k := 0) (gd_digs _ _ hg) (by simp) (by omega), ru]
      refine ⟨rfl, ?_⟩
      dsimp only
      rw [Nat.zero_add]
      generalize (gd q.toNat q.toNat (m % 2 ^ q.toNat)).length = L at *
      have e10 : (10 : Int) ^ L = 5 ^ L * 2 ^ L := by rw [← Int.mul_pow]; rfl
      have e2 : (2 : Int) ^ q.toNat = 2 ^ (q.toNat - L) * 2 ^ L := by rw [← Int.pow_add]; congr 1; omega
      have h10 : (0 : Int) < 10 ^ L := Int.pow_pos (by omega)
      have : 5 ^ L * u * 2 ^ q.toNat = (m % 2 ^ q.toNat) * 10 ^ L := by
        rw [← hu, e10]
        conv => lhs; rw [e2]
        generalize (5 : Int) ^ L = x
        generalize (2 : Int) ^ L = y
        generalize (2 : Int) ^ (q.toNat - L) = z
        rw [Int.mul_comm x u, Int.mul_assoc u x, Int.mul_left_comm x z y, ← Int.mul_assoc u z]
      rw [this, Int.mul_ediv_cancel _ (Int.ne_of_gt h10)]
theorem fit_mag {p q n : Int} (h : fitB p q n = true) : (0 ≤ n → n / 2 ^ q.toNat ≤ 4096) ∧ (n < 0 → -n / 2 ^ q.toNat ≤ 4096) ∧ q.toNat ≤ 16 := by
  obtain ⟨⟨h1, h2, h3, h4⟩, h5, h6⟩ := fitB_mk h
  have hp := two_pow_pos q.toNat
  have e : pw p q = 2 ^ p.toNat * 2 ^ q.toNat := by
    unfold pw
    rw [← Int.pow_add]
    congr 1; omega
  have k : (2 : Int) ^ p.toNat ≤ 4096 := by
    have e1 : (2 : Nat) ^ p.toNat ≤ 2 ^ 12 := Nat.pow_le_pow_right (by omega) (by omega)
    have e2 : ((2 ^ p.toNat : Nat) : Int) = (2 : Int) ^ p.toNat := by rw [Int.natCast_pow]; rfl
    omega
  have k2 := Int.mul_le_mul_of_nonneg_right k (Int.le_of_lt hp)
  have key : ∀ m : Int, 0 ≤ m → m ≤ pw p q → m / 2 ^ q.toNat ≤ 4096 := by
    intro m _ hm
    have := (Int.ediv_lt_iff_lt_mul (a := m) (b := 4097) hp).2 (by omega)
    omega
  exact ⟨fun h => key n h (by omega), fun h => key (-n) (by omega) (by omega), by omega⟩
/-- Read by the reference, a stored number's text leads back to it. -/
theorem sText_ps {p q n : Int} (h : fitB p q n = true) : psN q (sText p q n) = n ∧ psGood p q (sText p q n) := by
  obtain ⟨k1, k2, k3⟩ := fit_mag h
  have key : ∀ m : Int, 0 ≤ m → m / 2 ^ q.toNat ≤ 4096 → ∀ l s, psSign l = (s, mText q m) → psN q l = s * m ∧ (psR l).2.2 = [] := by
    intro m hm hw l s hs
    obtain ⟨a1, c, a2, a3, a4⟩ := mText_ps (q := q) k3 hm (by omega)
    have b1 : psW l = (m / 2 ^ q.toNat, if m % 2 ^ q.toNat = 0 then [] else 46 :: gd q.toNat q.toNat (m % 2 ^ q.toNat)) := by
      unfold psW; rw [hs]; exact a1
    have b2 : psR l = c := by unfold psR; rw [b1]; exact a2
    refine ⟨?_, by rw [b2]; exact a3⟩
    unfold psN
    rw [b2, a4, b1, hs]
    dsimp only
    have := Int.mul_ediv_add_emod m (2 ^ q.toNat)
    rw [Int.mul_comm (m / 2 ^ q.toNat), this]
  have main : psN q (sText p q n) = n ∧ (psR (sText p q n)).2.2 = [] ∧ sText p q n ≠ [] := by
    rcases (by omega : 0 ≤ n ∨ n < 0) with h0 | h0
    · rw [sText_pos h h0]
      obtain ⟨b, l, e, hb⟩ := mText_head (q := q) h0
      have hs : psSign (mText q n) = (1, mText q n) := by
        rw [e]; unfold psSign; dsimp only
        rw [if_neg (by intro e2; rw [e2] at hb; revert hb; unfold isDig; decide)]
      have := key n h0 (k1 h0) _ _ hs
      refine ⟨by rw [this.1]; omega, this.2, by rw [e]; simp⟩
    · rw [sText_neg h h0]
      have := key (-n) (by omega) (k2 h0) (45 :: mText q (-n)) (-1) (by unfold psSign; simp)
      refine ⟨by rw [this.1]; omega, this.2, by simp⟩
  exact ⟨main.1, main.2.1, main.2.2, by rw [main.1]⟩
theorem sText_fit {p q n : Int} (h : sText p q n ≠ []) : fitB p q n = true := by
  rcases hf : fitB p q n
  · exact absurd (sText_out hf) h
  · rfl
theorem sOf_list (s : ByteArray) : sOf s.data.toList = s := by cases s; rfl
theorem psGood_rs {p q : Int} {s : ByteArray} (h : psGood p q s.data.toList) : rsN p q s = psN q s.data.toList ∧ rsOk p q s = true :=
  rs_yes (sText_fit (by rw [h.2.2]; exact h.2.1)) (by rw [h.2.2]; exact sOf_list s)
theorem psBad_rs {p q : Int} {s : ByteArray} (h : ¬ psGood p q s.data.toList) : rsN p q s = 0 ∧ rsOk p q s = false := by
  refine rs_no fun ⟨n, h1, h2⟩ => h ?_
  have e : s.data.toList = sText p q n := by rw [← h2]; rfl
  rw [e]
  exact (sText_ps h1).2
/-- More fuel, and a finer format, do not change the digits. -/
theorem gd_fuel {q : Nat} : ∀ (k j : Nat) (r : Int), GR q k r → gd q (k + j) r = gd q k r
  | 0, j, r, h => by rw [gr_zero h, gd_zero, gd_zero]
  | k + 1, j, r, h => by
    rw [Nat.add_right_comm, gd, gd, gd_fuel k j _ (gr_step h).1]
theorem emod_sc {a b c : Int} (hc : 0 < c) : a * c % (b * c) = a % b * c := by
  rw [Int.emod_def, Int.emod_def, Int.mul_ediv_mul_of_pos_left _ _ hc, Int.sub_mul, Int.mul_right_comm]
theorem gd_fine {q : Nat} (d : Nat) : ∀ (k : Nat) (r : Int), gd (q + d) k (r * 2 ^ d) = gd q k r
  | 0, _ => rfl
  | k + 1, r => by
    have hd := two_pow_pos d
    have e : (2 : Int) ^ (q + d) = 2 ^ q * 2 ^ d := Int.pow_add ..
    rw [gd, gd, e, Int.mul_right_comm, Int.mul_ediv_mul_of_pos_left _ _ hd, emod_sc hd, gd_fine d k]
    by_cases h : r = 0
    · rw [if_pos h, if_pos (by rw [h]; simp)]
    · rw [if_neg h, if_neg (by
        intro e2
        rcases Int.mul_eq_zero.1 e2 with h1 | h1
        · exact h h1
        · omega)]
theorem mText_fine {q m : Int} (_ : 0 ≤ m) (hq : 0 ≤ q) (d : Nat) : mText (q + d) (m * 2 ^ d) = mText q m := by
  have hp := two_pow_pos q.toNat
  have hd := two_pow_pos d
  have e0 : (q + d).toNat = q.toNat + d := by omega
  have e : (2 : Int) ^ (q.toNat + d) = 2 ^ q.toNat * 2 ^ d := Int.pow_add ..
  have hg := gr_start (q := q.toNat) (Int.emod_nonneg m (Int.ne_of_gt hp)) (Int.emod_lt_of_pos m hp)
  unfold mText
  rw [e0, e, Int.mul_ediv_mul_of_pos_left _ _ hd, emod_sc hd, gd_fine, gd_fuel _ _ _ hg]
  congr 1
  by_cases h : m % 2 ^ q.toNat = 0
  · rw [if_pos h, if_pos (by rw [h]; simp)]
  · rw [if_neg h, if_neg (by
      intro e2
      rcases Int.mul_eq_zero.1 e2 with h1 | h1
      · exact h h1
      · omega)]
/-- In a finer and not narrower format the text of the converted number is the same. -/
theorem sText_fine {p q n p' : Int} {d : Nat} (h : fitB p q n = true) (h' : fitB p' (q + d) (n * 2 ^ d) = true) : sText p' (q + d) (n * 2 ^ d) = sText p q n := by
  obtain ⟨⟨h1, h2, h3, h4⟩, -, -⟩ := fitB_mk h
  have hd := two_pow_pos d
  rcases (by omega : 0 ≤ n ∨ n < 0) with h0 | h0
  · have := Int.mul_nonneg h0 (Int.le_of_lt hd)
    rw [sText_pos h h0, sText_pos h' this, mText_fine h0 h3]
  · have := Int.mul_neg_of_neg_of_pos h0 hd
    rw [sText_neg h h0, sText_neg h' this, ← Int.neg_mul, mText_fine (by omega) h3]
end Go.Proofs.YtidnnnjjpjadlaaDoor

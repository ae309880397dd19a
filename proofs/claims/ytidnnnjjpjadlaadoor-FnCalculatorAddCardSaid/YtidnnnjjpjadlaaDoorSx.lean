/- The texts of stored numbers: what they are, and that they lead back to the number. No condition: plain law. -/
import Derived.Test.YtidnnnjjpjadlaaDoorRfP
namespace Go.Proofs.YtidnnnjjpjadlaaDoor
open Go.ChangeShapes Go.WideShapes Go.ChangeAt Go.RowKit

/-- The digits behind the point: rest of 2^q, at most k of them. -/
def gd (q : Nat) : Nat → Int → List UInt8
  | 0, _ => []
  | k + 1, r => if r = 0 then [] else UInt8.ofNat (48 + r * 10 / 2 ^ q).toNat :: gd q k (r * 10 % 2 ^ q)
/-- What a rest is when k digits may follow. -/
def GR (q k : Nat) (r : Int) : Prop := 0 ≤ r ∧ r < 2 ^ q ∧ k ≤ q ∧ ∃ u : Int, r = u * 2 ^ (q - k)
theorem two_pow_pos (q : Nat) : (0 : Int) < 2 ^ q := Int.pow_pos (by omega)
theorem gr_zero {q : Nat} {r : Int} (h : GR q 0 r) : r = 0 := by
  obtain ⟨h1, h2, -, u, hu⟩ := h
  have hp := two_pow_pos q
  rw [Nat.sub_zero] at hu
  rcases (by omega : u ≤ 0 ∨ 1 ≤ u) with h | h
  · have := Int.mul_le_mul_of_nonneg_right h (Int.le_of_lt hp)
    omega
  · have := Int.mul_le_mul_of_nonneg_right h (Int.le_of_lt hp)
    omega
theorem gr_start {q : Nat} {r : Int} (h1 : 0 ≤ r) (h2 : r < 2 ^ q) : GR q q r := ⟨h1, h2, Nat.le_refl _, r, by simp⟩
theorem gr_step {q k : Nat} {r : Int} (h : GR q (k + 1) r) : GR q k (r * 10 % 2 ^ q) ∧ 0 ≤ r * 10 / 2 ^ q ∧ r * 10 / 2 ^ q ≤ 9 := by
  obtain ⟨h1, h2, h3, u, hu⟩ := h
  have hp := two_pow_pos q
  have m1 := Int.emod_nonneg (r * 10) (Int.ne_of_gt hp)
  have m2 := Int.emod_lt_of_pos (r * 10) hp
  have m3 := Int.mul_ediv_add_emod (r * 10) (2 ^ q)
  refine ⟨⟨m1, m2, by omega, ?_⟩, Int.ediv_nonneg (by omega) (by omega), ?_⟩
  · have e : (2 : Int) ^ q = 2 ^ k * 2 ^ (q - k) := by rw [← Int.pow_add]; congr 1; omega
    have e2 : (2 : Int) ^ (q - k) = 2 ^ (q - (k + 1)) * 2 := by rw [← Int.pow_succ]; congr 1; omega
    refine ⟨5 * u - 2 ^ k * (r * 10 / 2 ^ q), ?_⟩
    have e3 : r * 10 = 5 * u * 2 ^ (q - k) := by
      rw [e2, hu, Int.mul_assoc 5, ← Int.mul_assoc u]
      generalize u * 2 ^ (q - (k + 1)) = y
      omega
    rw [Int.sub_mul, ← e3, Int.mul_right_comm, ← e]
    omega
  · have : r * 10 / 2 ^ q < 10 := by
      rw [Int.ediv_lt_iff_lt_mul hp]
      omega
    omega
theorem gd_zero {q : Nat} : ∀ k, gd q k 0 = []
  | 0 => rfl
  | k + 1 => by rw [gd, if_pos rfl]
theorem gd_len {q : Nat} : ∀ (k : Nat) (r : Int), (gd q k r).length ≤ k
  | 0, _ => by simp [gd]
  | k + 1, r => by
    rw [gd]
    split
    · simp
    · have := gd_len (q := q) k (r * 10 % 2 ^ q)
      simp; omega
theorem gd_digs {q : Nat} : ∀ (k : Nat) (r : Int), GR q k r → ∀ b ∈ gd q k r, isDig b
  | 0, _, _ => by simp [gd]
  | k + 1, r, h => by
    rw [gd]
    split
    · simp
    · obtain ⟨h1, h2, h3⟩ := gr_step h
      intro b hb
      rcases List.mem_cons.1 hb with hb | hb
      · subst hb
        unfold isDig
        rw [dig_nat h2 h3]
        omega
      · exact gd_digs k _ h1 b hb
theorem five_of : ∀ (j : Nat) (x y : Int), 5 * x = 2 ^ j * y → y % 5 = 0
  | 0, x, y, h => by rw [Int.pow_zero] at h; omega
  | j + 1, x, y, h => by
    have e : (2 : Int) ^ (j + 1) * y = 2 ^ j * (2 * y) := by rw [Int.pow_succ, Int.mul_assoc]
    have := five_of j x (2 * y) (by omega)
    omega
/-- The value of digits behind a number. -/
theorem rdN_dig {l : List UInt8} (h : ∀ b ∈ l, isDig b) : ∀ x, rdN l x = (x * 10 ^ l.length + (rdN l 0).1, true) := by
  induction l with
  | nil => intro x; simp [rdN]
  | cons a l ih =>
    intro x
    have ha := h a (List.mem_cons_self ..)
    unfold isDig at ha
    have h' := ih (fun b hb => h b (List.mem_cons_of_mem _ hb))
    have s : ∀ y, rdN (a :: l) y = rdN l (10 * y + (a.toNat - 48)) := fun y => by rw [rdN, if_neg (by omega)]
    rw [s x, s 0, h' (10 * x + (a.toNat - 48)), h' (10 * 0 + (a.toNat - 48))]
    congr 1
    have e : ((a :: l).length) = l.length + 1 := rfl
    rw [e, Int.pow_succ, Int.add_mul]
    dsimp only
    have e2 : x * (10 ^ l.length * 10) = 10 * x * 10 ^ l.length := by
      rw [Int.mul_comm (10 ^ l.length) 10, ← Int.mul_assoc, Int.mul_comm x 10]
    rw [e2]
    have e3 : (10 * 0 + ((a.toNat : Int) - 48)) = (a.toNat : Int) - 48 := by omega
    rw [e3]
    omega
/-- The digits behind the point as one number: 5^L times what they stand for. -/
theorem gd_val {q : Nat} : ∀ (k : Nat) (r : Int), GR q k r → ∃ u : Int, 0 ≤ u ∧ (rdN (gd q k r) 0).1 = 5 ^ (gd q k r).length * u ∧ u * 2 ^ (q - (gd q k r).length) = r
  | 0, r, h => ⟨0, by omega, by simp [gd, rdN], by rw [gr_zero h]; simp⟩
  | k + 1, r, h => by
    rw [gd]
    split
    · rename_i h0
      subst h0
      exact ⟨0, by omega, by simp [rdN], by simp⟩
    · obtain ⟨h1, h2, h3⟩ := gr_step h
      obtain ⟨u', hu0, hv, hr⟩ := gd_val k _ h1
      have hk : k + 1 ≤ q := h.2.2.1
      have hl := gd_len (q := q) k (r * 10 % 2 ^ q)
      have hd := gd_digs k _ h1
      have hp := two_pow_pos q
      have m3 := Int.mul_ediv_add_emod (r * 10) (2 ^ q)
      generalize hD : r * 10 / 2 ^ q = d at *
      generalize hM : r * 10 % 2 ^ q = r' at *
      generalize gd q k r' = t at *
      have n1 := dig_nat h2 h3
      have s : rdN (UInt8.ofNat (48 + d).toNat :: t) 0 = rdN t d := by
        rw [rdN, if_neg (by rw [n1]; omega), n1]
        congr 1
        omega
      rw [s, rdN_dig hd d, hv]
      dsimp only
      have hq : (2 : Int) ^ q = 2 ^ t.length * 2 ^ (q - t.length) := by rw [← Int.pow_add]; congr 1; omega
      have hj : (2 : Int) ^ (q - t.length) = 2 * 2 ^ (q - (t.length + 1)) := by rw [Int.mul_comm, ← Int.pow_succ]; congr 1; omega
      have key : 5 * r = 2 ^ (q - (t.length + 1)) * (d * 2 ^ t.length + u') := by
        have : 10 * r = 2 * (2 ^ (q - (t.length + 1)) * (d * 2 ^ t.length + u')) := by
          rw [← Int.mul_assoc, ← hj, Int.mul_add, Int.mul_comm _ u', hr, Int.mul_left_comm, Int.mul_comm (2 ^ (q - t.length)), ← hq, Int.mul_comm d]
          omega
        omega
      have h5 := five_of _ _ _ key
      generalize hX : d * 2 ^ t.length + u' = X at *
      have hp2 := two_pow_pos t.length
      have hX0 : 0 ≤ X := by
        rw [← hX]
        have := Int.mul_nonneg h2 (Int.le_of_lt hp2)
        omega
      refine ⟨X / 5, by omega, ?_, ?_⟩
      · have e : X = 5 * (X / 5) := by omega
        show _ = 5 ^ (t.length + 1) * (X / 5)
        rw [Int.pow_succ, Int.mul_assoc, ← e, ← hX, Int.mul_add]
        congr 1
        have e10 : (10 : Int) ^ t.length = 5 ^ t.length * 2 ^ t.length := by rw [← Int.mul_pow]; rfl
        rw [e10, Int.mul_left_comm]
      · show X / 5 * 2 ^ (q - (t.length + 1)) = r
        have e : X = 5 * (X / 5) := by omega
        rw [e] at key
        rw [Int.mul_comm (X / 5)]
        rw [Int.mul_left_comm] at key
        omega
/-- The magnitude of a stored number in text: the whole part, and, if there is a rest, a point and its digits. -/
def mText (q : Int) (m : Int) : List UInt8 := dec (m / 2 ^ q.toNat) ++ (if m % 2 ^ q.toNat = 0 then [] else 46 :: gd q.toNat q.toNat (m % 2 ^ q.toNat))
def sText (p q n : Int) : List UInt8 := if fitB p q n = true then (if n < 0 then 45 :: mText q (-n) else mText q n) else []

theorem sText_pos {p q n : Int} (h : fitB p q n = true) (h0 : 0 ≤ n) : sText p q n = mText q n := by unfold sText; rw [if_pos h, if_neg (by omega)]
theorem sText_neg {p q n : Int} (h : fitB p q n = true) (h0 : n < 0) : sText p q n = 45 :: mText q (-n) := by unfold sText; rw [if_pos h, if_pos h0]
theorem sText_out {p q n : Int} (h : fitB p q n = false) : sText p q n = [] := by unfold sText; rw [if_neg (by rw [h]; decide)]
theorem dec_ne {n : Int} (h : 0 ≤ n) : dec n ≠ [] := (dec_dig _ n rfl h).2.2
/-- A magnitude's text round its point. -/
theorem mText_cut {q m : Int} (h : 0 ≤ m) : (spl 46 (mText q m)).1 = dec (m / 2 ^ q.toNat) ∧ (spl 46 (mText q m)).2.1 = gd q.toNat q.toNat (m % 2 ^ q.toNat) := by
  have hp := two_pow_pos q.toNat
  have hd : (46 : UInt8) ∉ dec (m / 2 ^ q.toNat) := dig_no (dec_digs (Int.ediv_nonneg h (Int.le_of_lt hp))) (by decide)
  unfold mText
  split
  · rename_i h0
    rw [List.append_nil, spl_none hd, h0, gd_zero]
    exact ⟨rfl, rfl⟩
  · rw [spl_app _ hd]
    exact ⟨rfl, rfl⟩
theorem dec_head {n : Int} (h : 0 ≤ n) : ∃ b l, dec n = b :: l ∧ isDig b := by
  have h1 := dec_digs h
  have h2 := dec_ne h
  rcases hd : dec n with _ | ⟨b, l⟩
  · exact absurd hd h2
  · exact ⟨b, l, rfl, h1 b (by rw [hd]; exact List.mem_cons_self ..)⟩
theorem mText_head {q m : Int} (h : 0 ≤ m) : ∃ b l, mText q m = b :: l ∧ isDig b := by
  obtain ⟨b, l, h1, h2⟩ := dec_head (n := m / 2 ^ q.toNat) (Int.ediv_nonneg h (Int.le_of_lt (two_pow_pos _)))
  unfold mText
  rw [h1]
  exact ⟨b, _, rfl, h2⟩
/-- What the parts of a magnitude's text read as. -/
theorem mText_read {q m : Int} (hm : 0 ≤ m) : rdN (dec (m / 2 ^ q.toNat)) 0 = (m / 2 ^ q.toNat, true) ∧
    ∃ u : Int, 0 ≤ u ∧ rdN (gd q.toNat q.toNat (m % 2 ^ q.toNat)) 0 = (5 ^ (gd q.toNat q.toNat (m % 2 ^ q.toNat)).length * u, true) ∧ u * 2 ^ (q.toNat - (gd q.toNat q.toNat (m % 2 ^ q.toNat)).length) = m % 2 ^ q.toNat := by
  have hp := two_pow_pos q.toNat
  have hg := gr_start (q := q.toNat) (Int.emod_nonneg m (Int.ne_of_gt hp)) (Int.emod_lt_of_pos m hp)
  refine ⟨rd_dec (Int.ediv_nonneg hm (Int.le_of_lt hp)), ?_⟩
  obtain ⟨u, h0, h1, h2⟩ := gd_val _ _ hg
  refine ⟨u, h0, ?_, h2⟩
  rw [← h1, rdN_dig (gd_digs _ _ hg) 0]
theorem dec_len {n : Int} (h1 : 0 ≤ n) (h2 : n ≤ 9999) : (dec n).length ≤ 4 := by
  rcases (by omega : n ≤ 9 ∨ (10 ≤ n ∧ n ≤ 99) ∨ (100 ≤ n ∧ n ≤ 999) ∨ 1000 ≤ n) with h | ⟨h, h'⟩ | ⟨h, h'⟩ | h
  · rw [dec_one h1 h]; simp
  · rw [dec_more (by omega), dec_one (by omega) (by omega)]; simp
  · rw [dec_more (by omega), dec_more (by omega), dec_one (by omega) (by omega)]; simp
  · rw [dec_more (by omega), dec_more (by omega), dec_more (by omega), dec_one (by omega) (by omega)]; simp
theorem mText_len {q m : Int} (h1 : 0 ≤ m) (h2 : m / 2 ^ q.toNat ≤ 9999) : (mText q m).length ≤ 5 + q.toNat := by
  have a := dec_len (Int.ediv_nonneg h1 (Int.le_of_lt (two_pow_pos q.toNat))) h2
  have b := gd_len (q := q.toNat) q.toNat (m % 2 ^ q.toNat)
  unfold mText
  split <;> simp <;> omega
/-- Different magnitudes have different texts. -/
theorem mText_inj {q m m' : Int} (h : 0 ≤ m) (h' : 0 ≤ m') (e : mText q m = mText q m') : m = m' := by
  have a := mText_cut (q := q) h
  have b := mText_cut (q := q) h'
  rw [e] at a
  have e1 : dec (m / 2 ^ q.toNat) = dec (m' / 2 ^ q.toNat) := a.1.symm.trans b.1
  have e2 : gd q.toNat q.toNat (m % 2 ^ q.toNat) = gd q.toNat q.toNat (m' % 2 ^ q.toNat) := a.2.symm.trans b.2
  obtain ⟨r1, u, u0, ru, hu⟩ := mText_read (q := q) h
  obtain ⟨r2, v, v0, rv, hv⟩ := mText_read (q := q) h'
  rw [e1] at r1
  rw [e2] at ru hu
  have d1 := congrArg Prod.fst (r1.symm.trans r2)
  have d2 := congrArg Prod.fst (ru.symm.trans rv)
  dsimp only at d1 d2
  have hp5 : (0 : Int) < 5 ^ (gd q.toNat q.toNat (m' % 2 ^ q.toNat)).length := Int.pow_pos (by omega)
  have d3 := Int.eq_of_mul_eq_mul_left (Int.ne_of_gt hp5) d2
  subst d3
  have s1 := Int.mul_ediv_add_emod m (2 ^ q.toNat)
  have s2 := Int.mul_ediv_add_emod m' (2 ^ q.toNat)
  have hr : m % 2 ^ q.toNat = m' % 2 ^ q.toNat := hu.symm.trans hv
  rw [← s1, ← s2, d1, hr]
theorem sText_inj {p q n m : Int} (hn : fitB p q n = true) (hm : fitB p q m = true) (e : sText p q n = sText p q m) : n = m := by
  rcases (by omega : 0 ≤ n ∨ n < 0) with h | h <;> rcases (by omega : 0 ≤ m ∨ m < 0) with h' | h'
  · rw [sText_pos hn h, sText_pos hm h'] at e
    exact mText_inj h h' e
  · rw [sText_pos hn h, sText_neg hm h'] at e
    obtain ⟨b, l, h1, h2⟩ := mText_head (q := q) h
    rw [h1] at e
    injection e with e1
    rw [e1] at h2
    exact absurd h2 (by unfold isDig; decide)
  · rw [sText_neg hn h, sText_pos hm h'] at e
    obtain ⟨b, l, h1, h2⟩ := mText_head (q := q) h'
    rw [h1] at e
    injection e with e1
    rw [← e1] at h2
    exact absurd h2 (by unfold isDig; decide)
  · rw [sText_neg hn h, sText_neg hm h'] at e
    injection e with _ e2
    have := mText_inj (by omega) (by omega) e2
    omega
/-- The number whose text is s, if there is one. -/
def rsGood (p q : Int) (s : ByteArray) : Prop := ∃ n, fitB p q n = true ∧ sOf (sText p q n) = s
open Classical in
noncomputable def rsN (p q : Int) (s : ByteArray) : Int := if h : rsGood p q s then Classical.choose h else 0
open Classical in
noncomputable def rsOk (p q : Int) (s : ByteArray) : Bool := decide (rsGood p q s)
theorem rs_yes {p q n : Int} {s : ByteArray} (h1 : fitB p q n = true) (h2 : sOf (sText p q n) = s) : rsN p q s = n ∧ rsOk p q s = true := by
  have hg : rsGood p q s := ⟨n, h1, h2⟩
  unfold rsN rsOk
  rw [dif_pos hg]
  refine ⟨?_, by simp [hg]⟩
  have := Classical.choose_spec hg
  exact sText_inj this.1 h1 (sOf_inj (this.2.trans h2.symm))
theorem rs_no {p q : Int} {s : ByteArray} (h : ¬ rsGood p q s) : rsN p q s = 0 ∧ rsOk p q s = false := by
  unfold rsN rsOk
  rw [dif_neg h]
  exact ⟨rfl, by simp [h]⟩
end Go.Proofs.YtidnnnjjpjadlaaDoor

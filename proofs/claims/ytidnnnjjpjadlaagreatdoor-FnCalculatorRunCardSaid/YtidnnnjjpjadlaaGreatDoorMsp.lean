/- The texts of stored numbers: what they are, and that they lead back to the number. No condition: plain law. -/
import Derived.Test.YtidnnnjjpjadlaaGreatDoorMrf
namespace Go.Proofs.YtidnnnjjpjadlaaGreatDoor
open Go.ChangeShapes Go.WideShapes Go.ChangeAt Go.RowKit

/-- The digits behind the point: rest of 2^q, at most k of them. -/
def gd (q : Nat) : Nat → Int → List UInt8
  | 0, _ => []
  | k + 1, r => if r = 0 then [] else UInt8.ofNat (48 + r * 10 / 2 ^ q).toNat :: gd q k (r * 10 % 2 ^ q)
/-- What a rest is when k digits may follow. -/
def GR (q k : Nat) (r : Int) : Prop := 0 ≤ r ∧ r < 2 ^ q ∧ k ≤ q ∧ ∃ u : Int, r = u * 2 ^ (q - k)
theorem two_pow_pos (q : Nat) : (0 : Int) < 2 ^ q := Int.pow_pos (by omega)
theorem gr_zero {q : Nat} {r : Int} (h : GR q 0 r) : r = 0 := by
  obtain ⟨h1, h2, -, u, hu⟩ := h
  have hp := two_pow_pos q
  rw [Nat.sub_zero] at hu
  rcases (by omega : u ≤ 0 ∨ 1 ≤ u) with h | h
  · have := Int.mul_le_mul_of_nonneg_right h (Int.le_of_lt hp)
    omega
  · have := Int.mul_le_mul_of_nonneg_right h (Int.le_of_lt hp)
    omega
theorem gr_start {q : Nat} {r : Int} (h1 : 0 ≤ r) (h2 : r < 2 ^ q) : GR q q r := ⟨h1, h2, Nat.le_refl _, r, by simp⟩
theorem gr_step {q k : Nat} {r : Int} (h : GR q (k + 1) r) : GR q k (r * 10 % 2 ^ q) ∧ 0 ≤ r * 10 / 2 ^ q ∧ r * 10 / 2 ^ q ≤ 9 := by
  obtain ⟨h1, h2, h3, u, hu⟩ := h
  have hp := two_pow_pos q
  have m1 := Int.emod_nonneg (r * 10) (Int.ne_of_gt hp)
  have m2 := Int.emod_lt_of_pos (r * 10) hp
  have m3 := Int.mul_ediv_add_emod (r * 10) (2 ^ q)
  refine ⟨⟨m1, m2, by omega, ?_⟩, Int.ediv_nonneg (by omega) (by omega), ?_⟩
  · have e : (2 : Int) ^ q = 2 ^ k * 2 ^ (q - k) := by rw [← Int.pow_add]; congr 1; omega
    have e2 : (2 : Int) ^ (q - k) = 2 ^ (q - (k + 1)) * 2 := by rw [← Int.pow_succ]; congr 1; omega
    refine ⟨5 * u - 2 ^ k * (r * 10 / 2 ^ q), ?_⟩
    have e3 : r * 10 = 5 * u * 2 ^ (q - k) := by
      rw [e2, hu, Int.mul_assoc 5, ← Int.mul_assoc u]
      generalize u * 2 ^ (q - (k + 1)) = y
      omega
    rw [Int.sub_mul, ← e3, Int.mul_right_comm, ← e]
    omega
  · have : r * 10 / 2 ^ q < 10 := by
      rw [Int.ediv_lt_iff_lt_mul hp]
      omega
    omega
theorem gd_zero {q : Nat} : ∀ k, gd q k 0 = []
  | 0 => rfl
  | k + 1 => by rw [gd, if_pos rfl]
theorem gd_len {q : Nat} : ∀ (k : Nat) (r : Int), (gd q k r).length ≤ k
  | 0, _ => by simp [gd]
  | k + 1, r => by
    rw [gd]
    split
    · simp
    · have := gd_len (q := q) k (r * 10 % 2 ^ q)
      simp; omega
theorem gd_digs {q : Nat} : ∀ (k : Nat) (r : Int), GR q k r → ∀ b ∈ gd q k r, isDig b
  | 0, _, _ => by simp [gd]
  | k + 1, r, h => by
    rw [gd]
    split
    · simp
    · obtain ⟨h1, h2, h3⟩ := gr_step h
      intro b hb
      rcases List.mem_cons.1 hb with hb | hb
      · subst hb
        unfold isDig
        rw [dig_nat h2 h3]
        omega
      · exact gd_digs k _ h1 b hb
theorem five_of : ∀ (j : Nat) (x y : Int), 5 * x = 2 ^ j * y → y % 5 = 0
  | 0, x, y, h => by rw [Int.pow_zero] at h; omega
  | j + 1, x, y, h => by
    have e : (2 : Int) ^ (j + 1) * y = 2 ^ j * (2 * y) := by rw [Int.pow_succ, Int.mul_assoc]
    have := five_of j x (2 * y) (by omega)
    omega
/-- The value of digits behind a number. -/
theorem rdN_dig {l : List UInt8} (h : ∀ b ∈ l, isDig b) : ∀ x, rdN l x = (x * 10 ^ l.length + (rdN l 0).1, true) := by
  induction l with
  | nil => intro x; simp [rdN]
  | cons a l ih =>
    intro x
    have ha := h a (List.mem_cons_self ..)
    unfold isDig at ha
    have h' := ih (fun b hb => h b (List.mem_cons_of_mem _ hb))
    have s : ∀ y, rdN (a :: l) y = rdN l (10 * y + (a.toNat - 48)) := fun y => by rw [rdN, if_neg (by omega)]
    rw [s x, s 0, h' (10 * x + (a.toNat - 48)), h' (10 * 0 + (a.toNat - 48))]
    congr 1
    have e : ((a :: l).length) = l.length + 1 := rfl
    rw [e, Int.pow_succ, Int.add_mul]
    dsimp only
    have e2 : x * (10 ^ l.length * 10) = 10 * x * 10 ^ l.length := by
      rw [Int.mul_comm (10 ^ l.length) 10, ← Int.mul_assoc, Int.mul_comm x 10]
    rw [e2]
    have e3 : (10 * 0 + ((a.toNat : Int) - 48)) = (a.toNat : Int) - 48 := by omega
    rw [e3]
    omega
/-- The digits behind the point as one number: 5^L times what they stand for. -/
theorem gd_val {q : Nat} : ∀ (k : Nat) (r : Int), GR q k r → ∃ u : Int, 0 ≤ u ∧ (rdN (gd q k r) 0).1 = 5 ^ (gd q k r).length * u ∧ u * 2 ^ (q - (gd q k r).length) = r
  | 0, r, h => ⟨0, by omega, by simp [gd, rdN], by rw [gr_zero h]; simp⟩
  | k + 1, r, h => by
    rw [gd]
    split
    · rename_i h0
      subst h0
      exact ⟨0, by omega, by simp [rdN], by simp⟩
    · obtain ⟨h1, h2, h3⟩ := gr_step h
      obtain ⟨u', hu0, hv, hr⟩ := gd_val k _ h1
      have hk : k + 1 ≤ q := h.2.2.1
      have hl := gd_len (q := q) k (r * 10 % 2 ^ q)
      have hd := gd_digs k _ h1
      have hp := two_pow_pos q
      have m3 := Int.mul_ediv_add_emod (r * 10) (2 ^ q)
      generalize hD : r * 10 / 2 ^ q = d at *
      generalize hM : r * 10 % 2 ^ q = r' at *
      generalize gd q k r' = t at *
      have n1 := dig_nat h2 h3
      have s : rdN (UInt8.ofNat (48 + d).toNat :: t) 0 = rdN t d := by
        rw [rdN, if_neg (by rw [n1]; omega), n1]
        congr 1
        omega
      rw [s, rdN_dig hd d, hv]
      dsimp only
      have hq : (2 : Int) ^ q = 2 ^ t.length * 2 ^ (q - t.length) := by rw [← Int.pow_add]; congr 1; omega
      have hj : (2 : Int) ^ (q - t.length) = 2 * 2 ^ (q - (t.length + 1)) := by rw [Int.mul_comm, ← Int.pow_succ]; congr 1; omega
      have key : 5 * r = 2 ^ (q - (t.length + 1)) * (d * 2 ^ t.length + u') := by
        have : 10 * r = 2 * (2 ^ (q - (t.length + 1)) * (d * 2 ^ t.length + u')) := by
          rw [← Int.mul_assoc, ← hj, Int.mul_add, Int.mul_comm _ u', hr, Int.mul_left_comm, Int.mul_comm (2 ^ (q - t.length)), ← hq, Int.mul_comm d]
          omega
        omega
      have h5 := five_of _ _ _ key
      generalize hX : d * 2 ^ t.length + u' = X at *
      have hp2 := two_pow_pos t.length
      have hX0 : 0 ≤ X := by
        rw [← hX]
        have := Int.mul_nonneg h2 (Int.le_of_lt hp2)
        omega
      refine ⟨X / 5, by omega, ?_, ?_⟩
      · have e : X = 5 * (X / 5) := by omega
        show _ = 5 ^ (t.length + 1) * (X / 5)
        rw [Int.pow_succ, Int.mul_assoc, ← e, ← hX, Int.mul_add]
        congr 1
        have e10 : (10 : Int) ^ t.length = 5 ^ t.length * 2 ^ t.length := by rw [← Int.mul_pow]; rfl
        rw [e10, Int.mul_left_comm]
      · show X / 5 * 2 ^ (q - (t.length + 1)) = r
        have e : X = 5 * (X / 5) := by omega
        rw [e] at key
        rw [Int.mul_comm (X / 5)]
        rw [Int.mul_left_comm] at key
        omega
/-- The magnitude of a stored number in text: the whole part, and, if there is a rest, a point and its digits. -/
def mText (q : Int) (m : Int) : List UInt8 := dec (m / 2 ^ q.toNat) ++ (if m % 2 ^ q.toNat = 0 then [] else 46 :: gd q.toNat q.toNat (m % 2 ^ q.toNat))
def sText (p q n : Int) : List UInt8 := if fitB p q n = true then (if n < 0 then 45 :: mText q (-n) else mText q n) else []

theorem sText_pos {p q n : Int} (h : fitB p q n = true) (h0 : 0 ≤ n) : sText p q n = mText q n := by unfold sText; rw [if_pos h, if_neg (by omega)]
theorem sText_neg {p q n : Int} (h : fitB p q n = true) (h0 : n < 0) : sText p q n = 45 :: mText q (-n) := by unfold sText; rw [if_pos h, if_pos h0]
theorem sText_out {p q n : Int} (h : fitB p q n = false) : sText p q n = [] := by unfold sText; rw [if_neg (by rw [h]; decide)]
theorem dec_ne {n : Int} (h : 0 ≤ n) : dec n ≠ [] := (dec_dig _ n rfl h).2.2
/-- A magnitude's text round its point. -/
theorem mText_cut {q m : Int} (h : 0 ≤ m) : (spl 46 (mText q m)).1 = dec (m / 2 ^ q.toNat) ∧ (spl 46 (mText q m)).2.1 = gd q.toNat q.toNat (m % 2 ^ q.toNat) := by
  have hp := two_pow_pos q.toNat
  have hd : (46 : UInt8) ∉ dec (m / 2 ^ q.toNat) := dig_no (dec_digs (Int.ediv_nonneg h (Int.le_of_lt hp))) (by decide)
  unfold mText
  split
  · rename_i h0
    rw [List.append_nil, spl_none hd, h0, gd_zero]
    exact ⟨rfl, rfl⟩
  · rw [spl_app _ hd]
    exact ⟨rfl, rfl⟩
theorem dec_head {n : Int} (h : 0 ≤ n) : ∃ b l, dec n = b :: l ∧ isDig b := by
  have h1 := dec_digs h
  have h2 := dec_ne h
  rcases hd : dec n with _ | ⟨b, l⟩
  · exact absurd hd h2
  · exact ⟨b, l, rfl, h1 b (by rw [hd]; exact List.mem_cons_self ..)⟩
theorem mText_head {q m : Int} (h : 0 ≤ m) : ∃ b l, mText q m = b :: l ∧ isDig b := by
  obtain ⟨b, l, h1, h2⟩ := dec_head (n := m / 2 ^ q.toNat) (Int.ediv_nonneg h (Int.le_of_lt (two_pow_pos _)))
  unfold mText
  rw [h1]
  exact ⟨b, _, rfl, h2⟩
/-- What the parts of a magnitude's text read as. -/
theorem mText_read {q m : Int} (hm : 0 ≤ m) : rdN (dec (m / 2 ^ q.toNat)) 0 = (m / 2 ^ q.toNat, true) ∧
    ∃ u : Int, 0 ≤ u ∧ rdN (gd q.toNat q.toNat (m % 2 ^ q.toNat)) 0 = (5 ^ (gd q.toNat q.toNat (m % 2 ^ q.toNat)).length * u, true) ∧ u * 2 ^ (q.toNat - (gd q.toNat q.toNat (m % 2 ^ q.toNat)).length) = m % 2 ^ q.toNat := by
  have hp := two_pow_pos q.toNat
  have hg := gr_start (q := q.toNat) (Int.emod_nonneg m (Int.ne_of_gt hp)) (Int.emod_lt_of_pos m hp)
  refine ⟨rd_dec (Int.ediv_nonneg hm (Int.le_of_lt hp)), ?_⟩
  obtain ⟨u, h0, h1, h2⟩ := gd_val _ _ hg
  refine ⟨u, h0, ?_, h2⟩
  rw [← h1, rdN_dig (gd_digs _ _ hg) 0]
theorem dec_len {n : Int} (h1 : 0 ≤ n) (h2 : n ≤ 9999) : (dec n).length ≤ 4 := by
  rcases (by omega : n ≤ 9 ∨ (10 ≤ n ∧ n ≤ 99) ∨ (100 ≤ n ∧ n ≤ 999) ∨ 1000 ≤ n) with h | ⟨h, h'⟩ | ⟨h, h'⟩ | h
  · rw [dec_one h1 h]; simp
  · rw [dec_more (by omega), dec_one (by omega) (by omega)]; simp
  · rw [dec_more (by omega), dec_more (by omega), dec_one (by omega) (by omega)]; simp
  · rw [dec_more (by omega), dec_more (by omega), dec_more (by omega), dec_one (by omega) (by omega)]; simp
theorem mText_len {q m : Int} (h1 : 0 ≤ m) (h2 : m / 2 ^ q.toNat ≤ 9999) : (mText q m).length ≤ 5 + q.toNat := by
  have a := dec_len (Int.ediv_nonneg h1 (Int.le_of_lt (two_pow_pos q.toNat))) h2
  have b := gd_len (q := q.toNat) q.toNat (m % 2 ^ q.toNat)
  unfold mText
  split <;> simp <;> omega
/-- Different magnitudes have different texts. -/
theorem mText_inj {q m m' : Int} (h : 0 ≤ m) (h' : 0 ≤ m') (e : mText q m = mText q m') : m = m' := by
  have a := mText_cut (q := q) h
  have b := mText_cut (q := q) h'
  rw [e] at a
  have e1 : dec (m / 2 ^ q.toNat) = dec (m' / 2 ^ q.toNat) := a.1.symm.trans b.1
  have e2 : gd q.toNat q.toNat (m % 2 ^ q.toNat) = gd q.toNat q.toNat (m' % 2 ^ q.toNat) := a.2.symm.trans b.2
  obtain ⟨r1, u, u0, ru, hu⟩ := mText_read (q := q) h
  obtain ⟨r2, v, v0, rv, hv⟩ := mText_read (q := q) h'
  rw [e1] at r1
  rw [e2] at ru hu
  have d1 := congrArg Prod.fst (r1.symm.trans r2)
  have d2 := congrArg Prod.fst (ru.symm.trans rv)
  dsimp only at d1 d2
  have hp5 : (0 : Int) < 5 ^ (gd q.toNat q.toNat (m' % 2 ^ q.toNat)).length := Int.pow_pos (by omega)
  have d3 := Int.eq_of_mul_eq_mul_left (Int.ne_of_gt hp5) d2
  subst d3
  have s1 := Int.mul_ediv_add_emod m (2 ^ q.toNat)
  have s2 := Int.mul_ediv_add_emod m' (2 ^ q.toNat)
  have hr : m % 2 ^ q.toNat = m' % 2 ^ q.toNat := hu.symm.trans hv
  rw [← s1, ← s2, d1, hr]
theorem sText_inj {p q n m : Int} (hn : fitB p q n = true) (hm : fitB p q m = true) (e : sText p q n = sText p q m) : n = m := by
  rcases (by omega : 0 ≤ n ∨ n < 0) with h | h <;> rcases (by omega : 0 ≤ m ∨ m < 0) with h' | h'
  · rw [sText_pos hn h, sText_pos hm h'] at e
    exact mText_inj h h' e
  · rw [sText_pos hn h, sText_neg hm h'] at e
    obtain ⟨b, l, h1, h2⟩ := mText_head (q := q) h
    rw [h1] at e
    injection e with e1
    rw [e1] at h2
    exact absurd h2 (by unfold isDig; decide)
  · rw [sText_neg hn h, sText_pos hm h'] at e
    obtain ⟨b, l, h1, h2⟩ := mText_head (q := q) h'
    rw [h1] at e
    injection e with e1
    rw [← e1] at h2
    exact absurd h2 (by unfold isDig; decide)
  · rw [sText_neg hn h, sText_neg hm h'] at e
    injection e with _ e2
    have := mText_inj (by omega) (by omega) e2
    omega
/-- The number whose text is s, if there is one. -/
def rsGood (p q : Int) (s : ByteArray) : Prop := ∃ n, fitB p q n = true ∧ sOf (sText p q n) = s
open Classical in
noncomputable def rsN (p q : Int) (s : ByteArray) : Int := if h : rsGood p q s then Classical.choose h else 0
open Classical in
noncomputable def rsOk (p q : Int) (s : ByteArray) : Bool := decide (rsGood p q s)
theorem rs_yes {p q n : Int} {s : ByteArray} (h1 : fitB p q n = true) (h2 : sOf (sText p q n) = s) : rsN p q s = n ∧ rsOk p q s = true := by
  have hg : rsGood p q s := ⟨n, h1, h2⟩
  unfold rsN rsOk
  rw [dif_pos hg]
  refine ⟨?_, by simp [hg]⟩
  have := Classical.choose_spec hg
  exact sText_inj this.1 h1 (sOf_inj (this.2.trans h2.symm))
theorem rs_no {p q : Int} {s : ByteArray} (h : ¬ rsGood p q s) : rsN p q s = 0 ∧ rsOk p q s = false := by
  unfold rsN rsOk
  rw [dif_neg h]
  exact ⟨rfl, by simp [h]⟩
end Go.Proofs.YtidnnnjjpjadlaaGreatDoor

/- What the reference reads of a text, and that texts of stored numbers lead back to them. No condition: plain law. -/
namespace Go.Proofs.YtidnnnjjpjadlaaGreatDoor
open Go.ChangeShapes Go.WideShapes Go.ChangeAt Go.RowKit

/-- The reference's reading of the whole part: the number, and what is left. -/
def tkW : List UInt8 → Int → Int × List UInt8
  | [], x => (x, [])
  | b :: l, x => if 48 ≤ b.toNat ∧ b.toNat ≤ 57 ∧ x < 100000 then tkW l (10 * x + (b.toNat - 48)) else (x, b :: l)
/-- The reference's reading of the digits behind the point: the number, the scale, and what is left. -/
def tkP : List UInt8 → Int → Int → Int × Int × List UInt8
  | [], x, c => (x, c, [])
  | b :: l, x, c => if 48 ≤ b.toNat ∧ b.toNat ≤ 57 ∧ c < 10000000000000000 then tkP l (10 * x + (b.toNat - 48)) (10 * c) else (x, c, b :: l)
theorem rdN_ge {l : List UInt8} : ∀ {x : Int}, (∀ b ∈ l, isDig b) → 0 ≤ x → x ≤ (rdN l x).1 := by
  induction l with
  | nil => intro x _ _; exact Int.le_refl _
  | cons a l ih =>
    intro x h hx
    have ha := h a (List.mem_cons_self ..)
    unfold isDig at ha
    rw [rdN, if_neg (by omega)]
    have := ih (x := 10 * x + (a.toNat - 48)) (fun b hb => h b (List.mem_cons_of_mem _ hb)) (by omega)
    omega
def headNo (t : List UInt8) : Prop := ∀ b l, t = b :: l → ¬ isDig b
theorem tkW_dig {l t : List UInt8} : ∀ {x : Int}, (∀ b ∈ l, isDig b) → 0 ≤ x → (rdN l x).1 < 100000 → headNo t → tkW (l ++ t) x = ((rdN l x).1, t) := by
  induction l with
  | nil =>
    intro x _ _ _ ht
    rw [List.nil_append]
    cases t with
    | nil => rfl
    | cons b l =>
      have := ht b l rfl
      unfold isDig at this
      rw [tkW, if_neg (by omega)]
      rfl
  | cons a l ih =>
    intro x h hx hl ht
    have ha := h a (List.mem_cons_self ..)
    have hge := rdN_ge h hx
    unfold isDig at ha
    have e : rdN (a :: l) x = rdN l (10 * x + (a.toNat - 48)) := by rw [rdN, if_neg (by omega)]
    rw [e] at hl hge ⊢
    rw [List.cons_append, tkW, if_pos (by omega)]
    exact ih (fun b hb => h b (List.mem_cons_of_mem _ hb)) (by omega) hl ht
theorem tkP_dig {l : List UInt8} : ∀ {x c : Int} {k : Nat}, (∀ b ∈ l, isDig b) → c = 10 ^ k → k + l.length ≤ 16 → tkP l x c = ((rdN l x).1, 10 ^ (k + l.length), []) := by
  induction l with
  | nil => intro x c k _ hc _; rw [hc]; rfl
  | cons a l ih =>
    intro x c k h hc hk
    have ha := h a (List.mem_cons_self ..)
    unfold isDig at ha
    have e : rdN (a :: l) x = rdN l (10 * x + (a.toNat - 48)) := by rw [rdN, if_neg (by omega)]
    have hl : (a :: l).length = l.length + 1 := rfl
    have hlt : (10 : Int) ^ k < 10000000000000000 := by
      have h1 : (10 : Nat) ^ k < 10 ^ 16 := Nat.pow_lt_pow_right (by omega) (by omega)
      have h2 : ((10 ^ k : Nat) : Int) = (10 : Int) ^ k := by rw [Int.natCast_pow]; rfl
      omega
    rw [e, tkP, if_pos (by omega), ih (k := k + 1) (fun b hb => h b (List.mem_cons_of_mem _ hb)) (by rw [hc, Int.pow_succ]; omega) (by omega)]
    rw [hl, Nat.add_right_comm, Nat.add_assoc]
/-- What the reference reads: the sign, and the text behind it. -/
def psSign (l : List UInt8) : Int × List UInt8 := match l with | [] => (1, []) | b :: t => if b = 45 then (-1, t) else (1, b :: t)
/-- The number behind a point, with its scale and what is left; without a point there is none. -/
def psPart (l : List UInt8) : Int × Int × List UInt8 := match l with | [] => (0, 1, []) | b :: t => if b = 46 then tkP t 0 1 else (0, 1, b :: t)
def psW (l : List UInt8) : Int × List UInt8 := tkW (psSign l).2 0
def psR (l : List UInt8) : Int × Int × List UInt8 := psPart (psW l).2
def psN (q : Int) (l : List UInt8) : Int := (psSign l).1 * ((psW l).1 * 2 ^ q.toNat + (psR l).1 * 2 ^ q.toNat / (psR l).2.1)
def psGood (p q : Int) (l : List UInt8) : Prop := (psR l).2.2 = [] ∧ l ≠ [] ∧ sText p q (psN q l) = l
/-- Read by the reference, a magnitude's text leads back to it. -/
theorem mText_ps {q m : Int} (hq : q.toNat ≤ 16) (hm : 0 ≤ m) (hw : m / 2 ^ q.toNat < 100000) :
    tkW (mText q m) 0 = (m / 2 ^ q.toNat, if m % 2 ^ q.toNat = 0 then [] else 46 :: gd q.toNat q.toNat (m % 2 ^ q.toNat)) ∧
    ∃ c, psPart (if m % 2 ^ q.toNat = 0 then [] else 46 :: gd q.toNat q.toNat (m % 2 ^ q.toNat)) = c ∧ c.2.2 = [] ∧ c.1 * 2 ^ q.toNat / c.2.1 = m % 2 ^ q.toNat := by
  have hp := two_pow_pos q.toNat
  have hd := Int.ediv_nonneg hm (Int.le_of_lt hp)
  obtain ⟨r1, u, u0, ru, hu⟩ := mText_read (q := q) hm
  have hg := gr_start (q := q.toNat) (Int.emod_nonneg m (Int.ne_of_gt hp)) (Int.emod_lt_of_pos m hp)
  constructor
  · unfold mText
    rw [tkW_dig (dec_digs hd) (by omega) (by rw [r1]; exact hw) (by
      split
      · intro b l h; cases h
      · intro b l h; injection h with h1; subst h1; unfold isDig; decide), r1]
  · refine ⟨_, rfl, ?_⟩
    split
    · rename_i h0
      rw [h0]
      exact ⟨rfl, by simp [psPart]⟩
    · have hl := gd_len (q := q.toNat) q.toNat (m % 2 ^ q.toNat)
      have e : psPart (46 :: gd q.toNat q.toNat (m % 2 ^ q.toNat)) = tkP (gd q.toNat q.toNat (m % 2 ^ q.toNat)) 0 1 := by unfold psPart; simp
      rw [e, tkP_dig (k := 0) (gd_digs _ _ hg) (by simp) (by omega), ru]
      refine ⟨rfl, ?_⟩
      dsimp only
      rw [Nat.zero_add]
      generalize (gd q.toNat q.toNat (m % 2 ^ q.toNat)).length = L at *
      have e10 : (10 : Int) ^ L = 5 ^ L * 2 ^ L := by rw [← Int.mul_pow]; rfl
      have e2 : (2 : Int) ^ q.toNat = 2 ^ (q.toNat - L) * 2 ^ L := by rw [← Int.pow_add]; congr 1; omega
      have h10 : (0 : Int) < 10 ^ L := Int.pow_pos (by omega)
      have : 5 ^ L * u * 2 ^ q.toNat = (m % 2 ^ q.toNat) * 10 ^ L := by
        rw [← hu, e10]
        conv => lhs; rw [e2]
        generalize (5 : Int) ^ L = x
        generalize (2 : Int) ^ L = y
        generalize (2 : Int) ^ (q.toNat - L) = z
        rw [Int.mul_comm x u, Int.mul_assoc u x, Int.mul_left_comm x z y, ← Int.mul_assoc u z]
      rw [this, Int.mul_ediv_cancel _ (Int.ne_of_gt h10)]
theorem fit_mag {p q n : Int} (h : fitB p q n = true) : (0 ≤ n → n / 2 ^ q.toNat ≤ 4096) ∧ (n < 0 → -n / 2 ^ q.toNat ≤ 4096) ∧ q.toNat ≤ 16 := by
  obtain ⟨⟨h1, h2, h3, h4⟩, h5, h6⟩ := fitB_mk h
  have hp := two_pow_pos q.toNat
  have e : pw p q = 2 ^ p.toNat * 2 ^ q.toNat := by
    unfold pw
    rw [← Int.pow_add]
    congr 1; omega
  have k : (2 : Int) ^ p.toNat ≤ 4096 := by
    have e1 : (2 : Nat) ^ p.toNat ≤ 2 ^ 12 := Nat.pow_le_pow_right (by omega) (by omega)
    have e2 : ((2 ^ p.toNat : Nat) : Int) = (2 : Int) ^ p.toNat := by rw [Int.natCast_pow]; rfl
    omega
  have k2 := Int.mul_le_mul_of_nonneg_right k (Int.le_of_lt hp)
  have key : ∀ m : Int, 0 ≤ m → m ≤ pw p q → m / 2 ^ q.toNat ≤ 4096 := by
    intro m _ hm
    have := (Int.ediv_lt_iff_lt_mul (a := m) (b := 4097) hp).2 (by omega)
    omega
  exact ⟨fun h => key n h (by omega), fun h => key (-n) (by omega) (by omega), by omega⟩
/-- Read by the reference, a stored number's text leads back to it. -/
theorem sText_ps {p q n : Int} (h : fitB p q n = true) : psN q (sText p q n) = n ∧ psGood p q (sText p q n) := by
  obtain ⟨k1, k2, k3⟩ := fit_mag h
  have key : ∀ m : Int, 0 ≤ m → m / 2 ^ q.toNat ≤ 4096 → ∀ l s, psSign l = (s, mText q m) → psN q l = s * m ∧ (psR l).2.2 = [] := by
    intro m hm hw l s hs
    obtain ⟨a1, c, a2, a3, a4⟩ := mText_ps (q := q) k3 hm (by omega)
    have b1 : psW l = (m / 2 ^ q.toNat, if m % 2 ^ q.toNat = 0 then [] else 46 :: gd q.toNat q.toNat (m % 2 ^ q.toNat)) := by
      unfold psW; rw [hs]; exact a1
    have b2 : psR l = c := by unfold psR; rw [b1]; exact a2
    refine ⟨?_, by rw [b2]; exact a3⟩
    unfold psN
    rw [b2, a4, b1, hs]
    dsimp only
    have := Int.mul_ediv_add_emod m (2 ^ q.toNat)
    rw [Int.mul_comm (m / 2 ^ q.toNat), this]
  have main : psN q (sText p q n) = n ∧ (psR (sText p q n)).2.2 = [] ∧ sText p q n ≠ [] := by
    rcases (by omega : 0 ≤ n ∨ n < 0) with h0 | h0
    · rw [sText_pos h h0]
      obtain ⟨b, l, e, hb⟩ := mText_head (q := q) h0
      have hs : psSign (mText q n) = (1, mText q n) := by
        rw [e]; unfold psSign; dsimp only
        rw [if_neg (by intro e2; rw [e2] at hb; revert hb; unfold isDig; decide)]
      have := key n h0 (k1 h0) _ _ hs
      refine ⟨by rw [this.1]; omega, this.2, by rw [e]; simp⟩
    · rw [sText_neg h h0]
      have := key (-n) (by omega) (k2 h0) (45 :: mText q (-n)) (-1) (by unfold psSign; simp)
      refine ⟨by rw [this.1]; omega, this.2, by simp⟩
  exact ⟨main.1, main.2.1, main.2.2, by rw [main.1]⟩
theorem sText_fit {p q n : Int} (h : sText p q n ≠ []) : fitB p q n = true := by
  rcases hf : fitB p q n
  · exact absurd (sText_out hf) h
  · rfl
theorem sOf_list (s : ByteArray) : sOf s.data.toList = s := by cases s; rfl
theorem psGood_rs {p q : Int} {s : ByteArray} (h : psGood p q s.data.toList) : rsN p q s = psN q s.data.toList ∧ rsOk p q s = true :=
  rs_yes (sText_fit (by rw [h.2.2]; exact h.2.1)) (by rw [h.2.2]; exact sOf_list s)
theorem psBad_rs {p q : Int} {s : ByteArray} (h : ¬ psGood p q s.data.toList) : rsN p q s = 0 ∧ rsOk p q s = false := by
  refine rs_no fun ⟨n, h1, h2⟩ => h ?_
  have e : s.data.toList = sText p q n := by rw [← h2]; rfl
  rw [e]
  exact (sText_ps h1).2
/-- More fuel, and a finer format, do not change the digits. -/
theorem gd_fuel {q : Nat} : ∀ (k j : Nat) (r : Int), GR q k r → gd q (k + j) r = gd q k r
  | 0, j, r, h => by rw [gr_zero h, gd_zero, gd_zero]
  | k + 1, j, r, h => by
    rw [Nat.add_right_comm, gd, gd, gd_fuel k j _ (gr_step h).1]
theorem emod_sc {a b c : Int} (hc : 0 < c) : a * c % (b * c) = a % b * c := by
  rw [Int.emod_def, Int.emod_def, Int.mul_ediv_mul_of_pos_left _ _ hc, Int.sub_mul, Int.mul_right_comm]
theorem gd_fine {q : Nat} (d : Nat) : ∀ (k : Nat) (r : Int), gd (q + d) k (r * 2 ^ d) = gd q k r
  | 0, _ => rfl
  | k + 1, r => by
    have hd := two_pow_pos d
    have e : (2 : Int) ^ (q + d) = 2 ^ q * 2 ^ d := Int.pow_add ..
    rw [gd, gd, e, Int.mul_right_comm, Int.mul_ediv_mul_of_pos_left _ _ hd, emod_sc hd, gd_fine d k]
    by_cases h : r = 0
    · rw [if_pos h, if_pos (by rw [h]; simp)]
    · rw [if_neg h, if_neg (by
        intro e2
        rcases Int.mul_eq_zero.1 e2 with h1 | h1
        · exact h h1
        · omega)]
theorem mText_fine {q m : Int} (_ : 0 ≤ m) (hq : 0 ≤ q) (d : Nat) : mText (q + d) (m * 2 ^ d) = mText q m := by
  have hp := two_pow_pos q.toNat
  have hd := two_pow_pos d
  have e0 : (q + d).toNat = q.toNat + d := by omega
  have e : (2 : Int) ^ (q.toNat + d) = 2 ^ q.toNat * 2 ^ d := Int.pow_add ..
  have hg := gr_start (q := q.toNat) (Int.emod_nonneg m (Int.ne_of_gt hp)) (Int.emod_lt_of_pos m hp)
  unfold mText
  rw [e0, e, Int.mul_ediv_mul_of_pos_left _ _ hd, emod_sc hd, gd_fine, gd_fuel _ _ _ hg]
  congr 1
  by_cases h : m % 2 ^ q.toNat = 0
  · rw [if_pos h, if_pos (by rw [h]; simp)]
  · rw [if_neg h, if_neg (by
      intro e2
      rcases Int.mul_eq_zero.1 e2 with h1 | h1
      · exact h h1
      · omega)]
/-- In a finer and not narrower format the text of the converted number is the same. -/
theorem sText_fine {p q n p' : Int} {d : Nat} (h : fitB p q n = true) (h' : fitB p' (q + d) (n * 2 ^ d) = true) : sText p' (q + d) (n * 2 ^ d) = sText p q n := by
  obtain ⟨⟨h1, h2, h3, h4⟩, -, -⟩ := fitB_mk h
  have hd := two_pow_pos d
  rcases (by omega : 0 ≤ n ∨ n < 0) with h0 | h0
  · have := Int.mul_nonneg h0 (Int.le_of_lt hd)
    rw [sText_pos h h0, sText_pos h' this, mText_fine h0 h3]
  · have := Int.mul_neg_of_neg_of_pos h0 hd
    rw [sText_neg h h0, sText_neg h' this, ← Int.neg_mul, mText_fine (by omega) h3]
end Go.Proofs.YtidnnnjjpjadlaaGreatDoor

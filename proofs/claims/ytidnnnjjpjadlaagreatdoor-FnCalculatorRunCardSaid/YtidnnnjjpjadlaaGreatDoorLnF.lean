/- What a line leaves: the calculator fits, and the answer tells of it. No condition: plain laws. -/
import Derived.Test.YtidnnnjjpjadlaaGreatDoorMlp
namespace Go.Proofs.YtidnnnjjpjadlaaGreatDoor
open Go.ChangeShapes Go.WideShapes Go.ChangeAt Go.RowKit

theorem pw_pos (p q : Int) : 1 ≤ pw p q := by unfold pw; have : (0 : Int) < 2 ^ (p + q).toNat := Int.pow_pos (by decide); omega
theorem cut_fit {p q v : Int} (h : fmtB p q = true) : fitB p q (cutV p q v) = true := by
  obtain ⟨h1, h2, h3, h4⟩ := fmtB_mk h
  have := pw_pos p q
  exact (fitB_in h1 h2 h3 h4 (by unfold cutV; omega) (by unfold cutV; omega)).symm
theorem fit_fmt {p q n : Int} (h : fitB p q n = true) : fmtB p q = true := by
  obtain ⟨⟨h1, h2, h3, h4⟩, -⟩ := fitB_mk h
  exact (fmtB_in h1 h2 h3 h4).symm
theorem fit_zero {p q n : Int} (h : fitB p q n = true) : fitB p q 0 = true := by
  obtain ⟨⟨h1, h2, h3, h4⟩, -⟩ := fitB_mk h
  have := pw_pos p q
  exact (fitB_in h1 h2 h3 h4 (by omega) (by omega)).symm
theorem fit_isq {p q n : Int} (h : fitB p q n = true) (h0 : 0 ≤ n) : fitB p q (isq (n * 2 ^ q.toNat)) = true := by
  obtain ⟨⟨h1, h2, h3, h4⟩, -, hn⟩ := fitB_mk h
  have hpw := pw_pos p q
  have e : pw p q = 2 ^ p.toNat * 2 ^ q.toNat := by unfold pw; exact pow_toNat (by omega) h3
  have hq0 : (1 : Int) ≤ 2 ^ q.toNat := by have : (0 : Int) < 2 ^ q.toNat := Int.pow_pos (by decide); omega
  have hp0 : (1 : Int) ≤ 2 ^ p.toNat := by have : (0 : Int) < 2 ^ p.toNat := Int.pow_pos (by decide); omega
  have hqp : (2 : Int) ^ q.toNat ≤ pw p q := by rw [e]; have := Int.mul_le_mul_of_nonneg_right hp0 (show (0 : Int) ≤ 2 ^ q.toNat by omega); omega
  have hle : n * 2 ^ q.toNat ≤ (pw p q - 1) * pw p q := Int.mul_le_mul hn hqp (by omega) (by omega)
  have hb : pw p q ≤ 268435456 := by
    unfold pw
    have : (2 : Int) ^ (p + q).toNat ≤ 2 ^ 28 := by have k : (2 : Nat) ^ (p + q).toNat ≤ 2 ^ 28 := Nat.pow_le_pow_right (by decide) (by omega); exact_mod_cast k
    omega
  have hle2 : (pw p q - 1) * pw p q ≤ 268435456 * 268435456 := Int.mul_le_mul (by omega) hb (by omega) (by omega)
  have hn0 : 0 ≤ n * 2 ^ q.toNat := Int.mul_nonneg h0 (by omega)
  have hs := sq_ex hn0 (by omega)
  rcases hs with ⟨-, -, r0, r1, -⟩ | ⟨hs, -⟩
  · generalize isq (n * 2 ^ q.toNat) = r at *
    have hr : r ≤ pw p q - 1 := by
      by_cases hc : r ≤ pw p q - 1
      · exact hc
      · exfalso
        have h5 : pw p q * pw p q ≤ r * r := Int.mul_le_mul (by omega) (by omega) (by omega) (by omega)
        have h6 : (pw p q - 1) * pw p q = pw p q * pw p q - pw p q := by rw [Int.sub_mul, Int.one_mul]
        omega
    exact (fitB_in h1 h2 h3 h4 (by omega) hr).symm
  · exact absurd ⟨hn0, by omega⟩ hs
theorem fit_pw {p q n : Int} (h : fitB p q n = true) : fitB p q (pwN p q n) = true := by
  obtain ⟨⟨h1, h2, h3, h4⟩, -⟩ := fitB_mk h
  have := pw_pos p q
  unfold pwN
  split
  · exact (fitB_in h1 h2 h3 h4 (by omega) (by omega)).symm
  · split
    · exact fit_zero h
    · exact cut_fit (fit_fmt h)
theorem sh_fit {p q v : Int} {x : Bool} (h : fmtB p q = true) : fitB (shV p q v x).p (shV p q v x).q (shV p q v x).n = true ∧ (x = true → (shV p q v x).x = true) := ⟨cut_fit h, fun hx => by unfold shV; simp [hx]⟩
theorem op_fit {p q a n : Int} {x : Bool} {L : List UInt8} {r : CV} (h : fmtB p q = true) (hn : fitB p q n = true) (e : opO p q a n x L = some r) : fitB r.p r.q r.n = true ∧ (x = true → r.x = true) := by
  unfold opO at e
  repeat' split at e
  all_goals first | (cases e; done) | skip
  all_goals
    injection e with e
    subst e
    first
      | exact ⟨hn, id⟩
      | exact sh_fit h
theorem af_fit {p q a : Int} {x : Bool} {s : ByteArray} {r : CV} (h : fitB p q a = true) (e : afO p q a x s = some r) : fitB r.p r.q r.n = true ∧ (x = true → r.x = true) := by
  unfold afO at e
  split at e
  · split at e
    · split at e
      · rename_i h0
        injection e with e
        subst e
        exact ⟨fit_isq h h0, id⟩
      · cases e
    · split at e
      · injection e with e
        subst e
        exact ⟨fit_pw h, fun hx => by simp [hx]⟩
      · split at e
        · injection e with e
          subst e
          exact sh_fit (fit_fmt h)
        · cases e
  · split at e
    · split at e
      · rename_i ho
        injection e with e
        subst e
        exact sh_fit (rf_fmt ho)
      · cases e
    · split at e
      · rename_i ho
        exact op_fit (fit_fmt h) (rs_fit ho) e
      · cases e
theorem ba_ext {a b : ByteArray} (h : a.data.toList = b.data.toList) : a = b := by
  cases a; cases b
  simp only [ByteArray.mk.injEq]
  exact Array.toList_inj.1 h
theorem ln_bad {p q a : Int} {x : Bool} {s : ByteArray} (h : fitB p q a = false) : lnO p q a x s = (⟨0, 0, 0, false⟩, ⟨#[]⟩) := by unfold lnO; rw [if_pos h]
theorem sText_zero {p q : Int} (h : fitB p q 0 = true) : sText p q 0 = [48] := by
  rw [sText_pos h (by omega)]
  unfold mText
  rw [Int.zero_ediv, Int.zero_emod, if_pos rfl, dec_one (by omega) (by omega)]
  rfl
/-- A line that fits: it tells, and leaves the calculator; or it shows. -/
theorem ln_cases (p q a : Int) (x : Bool) (s : ByteArray) (h : fitB p q a = true) :
    (∃ t : ByteArray, (t = ⟨#[121, 101, 115]⟩ ∨ t = ⟨#[110, 111]⟩ ∨ t = ⟨#[119, 104, 97, 116]⟩) ∧ lnO p q a x s = (⟨p, q, a, x⟩, t)) ∨
    (∃ (P Q N : Int) (X : Bool), lnO p q a x s = (⟨P, Q, N, X⟩, sOf (sText P Q N)) ∧ fitB P Q N = true ∧ (x = false ∨ X = true ∨ s = ⟨#[99, 108, 101, 97, 114]⟩)) := by
  unfold lnO
  rw [if_neg (by rw [h]; decide)]
  split
  · rename_i hs
    refine .inr ⟨p, q, 0, false, ?_, fit_zero h, .inr (.inr (ba_ext hs))⟩
    rw [sText_zero (fit_zero h)]
    rfl
  · split
    · refine .inl ⟨_, ?_, rfl⟩
      cases x
      · exact .inr (.inl rfl)
      · exact .inl rfl
    · split
      · exact .inl ⟨_, .inr (.inr rfl), rfl⟩
      · rename_i r hr
        obtain ⟨h1, h2⟩ := af_fit h hr
        refine .inr ⟨r.p, r.q, r.n, r.x, rfl, h1, ?_⟩
        cases x
        · exact .inl rfl
        · exact .inr (.inl (h2 rfl))
theorem sText_no {p q n : Int} (h : fitB p q n = true) {b : UInt8} {l : List UInt8} (hb : b.toNat ≠ 45 ∧ ¬ isDig b) : ¬ sOf (sText p q n) = ⟨(b :: l).toArray⟩ := by
  intro e
  have e2 : sText p q n = b :: l := by
    have := congrArg (fun (u : ByteArray) => u.data.toList) e
    simpa [sOf] using this
  rcases (by omega : 0 ≤ n ∨ n < 0) with h0 | h0
  · rw [sText_pos h h0] at e2
    obtain ⟨c, l', k1, k2⟩ := mText_head (q := q) h0
    rw [k1] at e2
    injection e2 with e3
    subst e3
    exact hb.2 k2
  · rw [sText_neg h h0] at e2
    injection e2 with e3
    subst e3
    exact hb.1 rfl
end Go.Proofs.YtidnnnjjpjadlaaGreatDoor

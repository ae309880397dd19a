/- The texts of formats: cut and read they lead back to the format. No condition: plain law. -/
import Derived.Test.YtidnnnjjpjadlaaDoorRf
import Derived.Lib.IndexMore
namespace Go.Proofs.YtidnnnjjpjadlaaDoor
open Go.ChangeShapes Go.WideShapes Go.ChangeAt Go.RowKit

/-- A list cut round the first c. -/
def spl (c : UInt8) : List UInt8 → List UInt8 × List UInt8 × Bool
  | [] => ([], [], false)
  | b :: l => if b = c then ([], l, true) else (b :: (spl c l).1, (spl c l).2.1, (spl c l).2.2)
theorem index_one (b c : UInt8) (l : List UInt8) : Lib.index (b :: l) [c] = if b = c then 0 else if Lib.index l [c] = -1 then -1 else Lib.index l [c] + 1 := by
  rw [Lib.index]
  by_cases h : b = c
  · subst h
    simp [List.isPrefixOf]
  · have : ([c].isPrefixOf (b :: l)) = false := by simp [List.isPrefixOf]; exact fun e => h e.symm
    rw [this, if_neg h]
    by_cases h2 : Lib.index l [c] = -1 <;> simp [h2]
theorem index_ge (s sub : List UInt8) : -1 ≤ Lib.index s sub := by
  rcases Lib.index_spec s sub with ⟨h, -⟩ | ⟨i, h, -⟩ <;> omega
theorem cut_spl (c : UInt8) : ∀ l, Lib.cut l [c] = spl c l
  | [] => by
    unfold Lib.cut spl
    have : Lib.index [] [c] = -1 := by unfold Lib.index; rfl
    rw [this, if_neg (by omega)]
  | b :: l => by
    have ih := cut_spl c l
    have hg := index_ge l [c]
    unfold Lib.cut at ih ⊢
    unfold spl
    rw [index_one, ← ih]
    by_cases h : b = c
    · rw [if_pos h, if_pos h]; simp
    · rw [if_neg h, if_neg h]
      by_cases h2 : Lib.index l [c] = -1
      · rw [if_pos h2, h2]; simp
      · rw [if_neg h2, if_pos (by omega), if_pos (by omega)]
        have e : (Lib.index l [c] + 1).toNat = (Lib.index l [c]).toNat + 1 := by omega
        rw [e]
        simp
theorem spl_app {c : UInt8} : ∀ {l : List UInt8} (r : List UInt8), c ∉ l → spl c (l ++ c :: r) = (l, r, true)
  | [], r, _ => by simp [spl]
  | b :: l, r, h => by
    have h1 : ¬ b = c := fun e => h (by simp [e])
    have h2 := spl_app (l := l) r (fun m => h (List.mem_cons_of_mem _ m))
    rw [List.cons_append, spl, if_neg h1, h2]
theorem spl_none {c : UInt8} : ∀ {l : List UInt8}, c ∉ l → spl c l = (l, [], false)
  | [], _ => rfl
  | b :: l, h => by
    have h1 : ¬ b = c := fun e => h (by simp [e])
    have h2 := spl_none (l := l) (fun m => h (List.mem_cons_of_mem _ m))
    rw [spl, if_neg h1, h2]
def isDig (b : UInt8) : Prop := 48 ≤ b.toNat ∧ b.toNat ≤ 57
theorem dig_nat {d : Int} (h1 : 0 ≤ d) (h2 : d ≤ 9) : (UInt8.ofNat (48 + d).toNat).toNat = (48 + d).toNat := by
  rw [UInt8.toNat_ofNat']
  omega
theorem rdN_snoc : ∀ (l : List UInt8) (x : Int) (b : UInt8), (rdN l x).2 = true → isDig b → rdN (l ++ [b]) x = (10 * (rdN l x).1 + (b.toNat - 48), true)
  | [], x, b, _, hb => by
    unfold isDig at hb
    have e : rdN [b] x = if b.toNat < 48 ∨ 57 < b.toNat then (0, false) else (10 * x + (b.toNat - 48), true) := rfl
    rw [List.nil_append, e, if_neg (by omega)]
    rfl
  | a :: l, x, b, h, hb => by
    rw [List.cons_append, rdN]
    rw [rdN] at h
    by_cases hc : a.toNat < 48 ∨ 57 < a.toNat
    · rw [if_pos hc] at h; simp at h
    · rw [if_neg hc] at h ⊢
      rw [rdN_snoc l _ b h hb]
      conv => rhs; rw [rdN, if_neg hc]
theorem dec_dig : ∀ (k : Nat) (n : Int), n.toNat = k → 0 ≤ n → (∀ b ∈ dec n, isDig b) ∧ rdN (dec n) 0 = (n, true) ∧ dec n ≠ [] := by
  intro k
  induction k using Nat.strongRecOn with
  | ind k ih =>
    intro n hk hn
    have hd := dig_nat (d := n % 10) (by omega) (by omega)
    have hb : isDig (UInt8.ofNat (48 + n % 10).toNat) := by unfold isDig; rw [hd]; omega
    rcases (by omega : n ≤ 9 ∨ 9 < n) with h | h
    · rw [dec_one hn h]
      refine ⟨fun b hm => by simp at hm; rw [hm]; exact hb, ?_, by simp⟩
      have := rdN_snoc [] 0 _ rfl hb
      rw [List.nil_append] at this
      rw [this, hd]
      simp [rdN]
      omega
    · obtain ⟨i1, i2, -⟩ := ih (n / 10).toNat (by omega) (n / 10) rfl (by omega)
      rw [dec_more h]
      refine ⟨fun b hm => ?_, ?_, by simp⟩
      · simp only [List.mem_append, List.mem_singleton] at hm
        rcases hm with hm | hm
        · exact i1 b hm
        · rw [hm]; exact hb
      · rw [rdN_snoc _ _ _ (by rw [i2]) hb, i2, hd]
        congr 1
        dsimp only
        omega
theorem dec_digs {n : Int} (h : 0 ≤ n) : ∀ b ∈ dec n, isDig b := (dec_dig _ n rfl h).1
theorem rd_dec {n : Int} (h : 0 ≤ n) : rdN (dec n) 0 = (n, true) := (dec_dig _ n rfl h).2.1
theorem dig_no {l : List UInt8} {c : UInt8} (h : ∀ b ∈ l, isDig b) (hc : c.toNat < 48 ∨ 57 < c.toNat) : c ∉ l := fun m => by
  have := h c m
  unfold isDig at this
  omega
theorem dec_len2 {n : Int} (h : 0 ≤ n) (h2 : n ≤ 99) : (dec n).length ≤ 2 := by
  rcases (by omega : n ≤ 9 ∨ 9 < n) with h3 | h3
  · rw [dec_one h h3]; simp
  · rw [dec_more h3, dec_one (by omega) (by omega)]; simp
/-- A format's text leads back to it. -/
theorem fText_cut {p q : Int} {s : ByteArray} (h : fmtB p q = true) (hs : sOf (fText p q) = s) : cutL s = dec p ∧ cutR s = dec q := by
  obtain ⟨h1, h2, h3, h4⟩ := fmtB_mk h
  subst hs
  have e : (sOf (fText p q)).data.toList = dec p ++ 46 :: dec q := by
    unfold fText
    rw [if_pos h]
    simp [sOf]
  unfold cutL cutR
  rw [cut_spl, e, spl_app _ (dig_no (dec_digs (by omega)) (by decide))]
  exact ⟨rfl, rfl⟩
theorem fText_good {p q : Int} {s : ByteArray} (h : fmtB p q = true) (hs : sOf (fText p q) = s) : rfGood s ∧ (rdN (cutL s) 0).1 = p ∧ (rdN (cutR s) 0).1 = q := by
  obtain ⟨h1, h2, h3, h4⟩ := fmtB_mk h
  obtain ⟨e1, e2⟩ := fText_cut h hs
  unfold rfGood
  rw [e1, e2, rd_dec (by omega), rd_dec (by omega)]
  exact ⟨⟨dec_len2 (by omega) (by omega), dec_len2 (by omega) (by omega), rfl, rfl, h, hs⟩, rfl, rfl⟩
theorem rfGood_mk {s : ByteArray} (h : rfGood s) : ∃ p q, fmtB p q = true ∧ sOf (fText p q) = s := ⟨_, _, h.2.2.2.2.1, h.2.2.2.2.2⟩
theorem sp_bad {s : ByteArray} {a b : Int} (h : ¬ rfGood s) : ¬ (fmtB a b = true ∧ sOf (fText a b) = s) := fun k => h (fText_good k.1 k.2).1
end Go.Proofs.YtidnnnjjpjadlaaDoor

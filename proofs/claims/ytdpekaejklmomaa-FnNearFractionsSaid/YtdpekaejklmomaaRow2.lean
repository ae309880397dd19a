/- Rows of fractions, and the fractions of a chain as one row of numbers. No condition: contracts for the walks of the laws. -/
import Derived.Test.YtdpekaejklmomaaIntRows
import Derived.Test.YtdpekaejklmomaaFch
import Derived.Test.YtdpekaejklmomaaFci
import Derived.Laws.MakeOwn
namespace Go.Proofs.Ytdpekaejklmomaa
open Go.ChangeShapes Go.WideShapes Go.ChangeAt Go.RowKit

attribute [local go_sem] alloc_drewN' setCell_drewN'

/-- The value v owns n fractions, whose numbers are zs, in blocks from base on. -/
def Row2 (w : World) (base : Nat) (v : Value) (n : Nat) (zs : List Int) : Prop := w.ownsRow base 41 2 v n (zs.map (Value.int .i64))
theorem Row2.len {w : World} {base n : Nat} {v : Value} {zs : List Int} (h : Row2 w base v n zs) : zs.length = n * 2 := by have := h.1; simpa using this
theorem Row2.nil (w : World) (base : Nat) : Row2 w base (.slice none 0 0) 0 [] := World.ownsRow_nil _ _ _ _
theorem Row2.emptyAt {w : World} {base g : Nat} (hg : g = w.heap.size) (hb : base ≤ w.heap.size) : Row2 (w.alloc (.cells #[] 41)) base (.slice (some ⟨g, 0, none⟩) 0 0) 0 [] := by subst hg; exact World.ownsRow_made w #[] 0 hb (by simp) rfl
theorem Row2.lower {w : World} {base b n : Nat} {v : Value} {zs : List Int} (h : Row2 w base v n zs) (hb : b ≤ base) : Row2 w b v n zs := by
  obtain ⟨h1, h2⟩ := h
  refine ⟨h1, ?_⟩
  rcases h2 with h | ⟨g, cap, cur, h3, h4, h5⟩
  · exact .inl h
  · exact .inr ⟨g, cap, cur, h3, by omega, h5⟩
theorem Row2.drewN {w : World} {base n : Nat} {v : Value} {zs : List Int} (h : Row2 w base v n zs) (k : Nat) : Row2 (w.drewN k) base v n zs := h
theorem Row2.alloc {w : World} {base n : Nat} {v : Value} {zs : List Int} (h : Row2 w base v n zs) (o : Obj) : Row2 (w.alloc o) base v n zs := World.ownsRow.alloc h o
theorem Row2.kept {w w' : World} {base n : Nat} {v : Value} {zs : List Int} {row : Option Nat} (h : Row2 w base v n zs) (hg : w.grownBy w' row) (hne : v.ownBlock = none ∨ v.ownBlock ≠ row) : Row2 w' base v n zs := World.ownsRow.kept h hg hne
theorem Row2.below {w w' : World} {base n : Nat} {v : Value} {zs : List Int} (h : Row2 w base v n zs) (hb : Below w.heap.size w w') : Row2 w' base v n zs :=
  h.kept (row := none) ⟨hb.os, hb.tape, hb.output, hb.size, fun i hi _ => hb.block i hi⟩ (by cases v.ownBlock <;> simp)
theorem Row2.not {w : World} {base n : Nat} {v : Value} {zs : List Int} (h : Row2 w base v n zs) {p : Addr} (hp : v.ownBlock ≠ some p.block) (u : Value) : Row2 (w.setCell p u) base v n zs :=
  h.kept (grown_far p u) (.inr hp)
theorem Row.not {w : World} {base : Nat} {v : Value} {xs : List Int} (h : Row w base v xs) {p : Addr} (hp : v.ownBlock ≠ some p.block) (u : Value) : Row (w.setCell p u) base v xs :=
  h.kept (grown_far p u) (.inr hp)
theorem Row2.open_ {w : World} {base n : Nat} {v : Value} {zs : List Int} (h : Row2 w base v n zs) : ∃ ao cap, v = .slice ao n cap ∧ cap ≤ maxLen ∧ n ≤ cap ∧
    (0 < n → ∃ g, ao = some ⟨g, 0, none⟩ ∧ (∀ j, j < n * 2 → w.cell? ⟨g, j, none⟩ = some (.int .i64 (zs.getD j 0))) ∧ (∀ j, w.frozen? ⟨g, j, none⟩ = false)) := by
  have hl := h.len
  rcases h.2 with ⟨rfl, h0⟩ | ⟨g, cap, cur, rfl, hb, hg, hnc, hcm, hcs, htake⟩
  · exact ⟨none, 0, by rw [h0], Nat.zero_le _, by omega, fun h => by omega⟩
  · refine ⟨some ⟨g, 0, none⟩, cap, rfl, hcm, hnc, fun _ => ⟨g, rfl, fun j hj => ?_, fun j => ?_⟩⟩
    · have hj2 : j < zs.length := by omega
      rw [World.ownsRow.cellAt h j (by omega)]
      simp [hj2]
    · exact World.ownsRow.frozenAt h j
theorem Row2.put {w : World} {base g n cap : Nat} {zs : List Int} (h : Row2 w base (.slice (some ⟨g, 0, none⟩) n cap) n zs) (j : Nat) (u : Int) : Row2 (w.setCell ⟨g, j, none⟩ (.int .i64 u)) base (.slice (some ⟨g, 0, none⟩) n cap) n (zs.set j u) ∧ w.grownBy (w.setCell ⟨g, j, none⟩ (.int .i64 u)) (some g) := by
  have h' := World.ownsRow.stored h j (.int .i64 u)
  refine ⟨?_, h'.2⟩
  unfold Row2
  rw [List.map_set]
  exact h'.1
/-- The fractions of the first k quotients' chain, as numbers. -/
def nrL (xs : List Int) : Nat → List Int
  | 0 => []
  | k + 1 => nrL xs k ++ [(cvL (xs.take (k + 1))).lt, (cvL (xs.take (k + 1))).ll]
theorem nrL_len (xs : List Int) : ∀ k, (nrL xs k).length = k * 2
  | 0 => rfl
  | k + 1 => by rw [nrL, List.length_append, nrL_len xs k]; simp; omega
theorem nrL_get (xs : List Int) : ∀ (n k : Nat), k < n → (nrL xs n).getD (k * 2) 0 = (cvL (xs.take (k + 1))).lt ∧ (nrL xs n).getD (k * 2 + 1) 0 = (cvL (xs.take (k + 1))).ll
  | 0, k, h => by omega
  | n + 1, k, h => by
    have hl := nrL_len xs n
    rw [nrL, List.getD_eq_getElem?_getD, List.getD_eq_getElem?_getD]
    rcases (by omega : k = n ∨ k < n) with rfl | h2
    · rw [List.getElem?_append_right (by omega), List.getElem?_append_right (by omega), hl, Nat.sub_self, show k * 2 + 1 - k * 2 = 1 by omega]
      exact ⟨rfl, rfl⟩
    · have := nrL_get xs n k h2
      rw [List.getD_eq_getElem?_getD, List.getD_eq_getElem?_getD] at this
      rw [List.getElem?_append_left (by omega), List.getElem?_append_left (by omega)]
      exact this
/-- The row that is filled: the first k fractions, zeros behind them. -/
def nrZ (xs : List Int) (n k : Nat) : List Int := nrL xs k ++ List.replicate ((n - k) * 2) 0
theorem nrZ_len (xs : List Int) {n k : Nat} (h : k ≤ n) : (nrZ xs n k).length = n * 2 := by unfold nrZ; rw [List.length_append, nrL_len, List.length_replicate]; omega
theorem nrZ_zero (xs : List Int) (n : Nat) : nrZ xs n 0 = List.replicate (n * 2) 0 := by simp [nrZ, nrL]
theorem nrZ_end (xs : List Int) (n : Nat) : nrZ xs n n = nrL xs n := by simp [nrZ]
theorem nrZ_step (xs : List Int) {n k : Nat} (h : k < n) : ((nrZ xs n k).set (k * 2) (cvL (xs.take (k + 1))).lt).set (k * 2 + 1) (cvL (xs.take (k + 1))).ll = nrZ xs n (k + 1) := by
  have hl := nrL_len xs k
  unfold nrZ
  rw [show (n - k) * 2 = ((n - (k + 1)) * 2 + 1) + 1 by omega, List.replicate_succ, List.replicate_succ, List.set_append_right _ _ (by omega), hl, Nat.sub_self, List.set_cons_zero, List.set_append_right _ _ (by omega), hl, show k * 2 + 1 - k * 2 = 0 + 1 by omega, List.set_cons_succ, List.set_cons_zero]
  rw [nrL, List.append_assoc]
  rfl
theorem nb_of (a b : Int) {k : Nat} (hk : k < (frChain a b).length) : (-1000000 ≤ (frChain a b).getD k 0 ∧ (frChain a b).getD k 0 ≤ 1000000) ∧ -2000000000000 ≤ (cvL ((frChain a b).take (k + 1))).lt ∧ (cvL ((frChain a b).take (k + 1))).lt ≤ 2000000000000 ∧ 1 ≤ (cvL ((frChain a b).take (k + 1))).ll ∧ (cvL ((frChain a b).take (k + 1))).ll ≤ 1000000 := by
  rcases hf : frOk a b
  · rw [frChain_out hf] at hk; exact absurd hk (by simp)
  · rw [frChain_in hf] at *; exact near_bd hf hk
theorem chain_le (a b : Int) : (frChain a b).length ≤ 40 := by
  rcases hf : frOk a b
  · rw [frChain_out hf]; simp
  · rw [frChain_in hf]
    obtain ⟨h1, h2, h3, h4, h5⟩ := frOk_mk hf
    have := chain_len40 (a := a) (b := b) (by omega) h4
    omega
/-- The next step of the rounds. -/
theorem nr_next {a0 b0 : Int} {k : Nat} {a b c d : Int} (h : CvIs (frChain a0 b0) k a b c d) (hk : k < (frChain a0 b0).length) : CvIs (frChain a0 b0) (k + 1) c d ((frChain a0 b0).getD k 0 * c + a) ((frChain a0 b0).getD k 0 * d + b) ∧ nrL (frChain a0 b0) (k + 1) = nrL (frChain a0 b0) k ++ [(frChain a0 b0).getD k 0 * c + a, (frChain a0 b0).getD k 0 * d + b] ∧ (-1000000 ≤ (frChain a0 b0).getD k 0 ∧ (frChain a0 b0).getD k 0 ≤ 1000000) ∧ (∀ n, k < n → ((nrZ (frChain a0 b0) n k).set (k * 2) ((frChain a0 b0).getD k 0 * c + a)).set (k * 2 + 1) ((frChain a0 b0).getD k 0 * d + b) = nrZ (frChain a0 b0) n (k + 1)) := by
  have e := cvIs_eq h hk
  have nb := nb_of a0 b0 hk
  have zs := fun n hn => nrZ_step (frChain a0 b0) (n := n) (k := k) hn
  rw [nrL]
  rw [e] at nb ⊢
  simp only [e] at zs
  dsimp only at nb
  exact ⟨cvIs_step h hk nb.2.1 nb.2.2.1 nb.2.2.2.1 nb.2.2.2.2, rfl, nb.1, zs⟩
end Go.Proofs.Ytdpekaejklmomaa

/- Rows of numbers, and the quotients of a fraction. No condition: contracts for the walks of the laws. -/
import Derived.Test.YtdpekaejklmomaaNum
import Derived.Test.YtdpekaejklmomaaFrac
namespace Go.Proofs.Ytdpekaejklmomaa
open Go.ChangeShapes Go.WideShapes Go.ChangeAt Go.RowKit


def chainL (a b : Int) : List Int := if _h : 0 < b then a / b :: chainL b (a % b) else []
  termination_by b.toNat
  decreasing_by
  have := Int.emod_lt_of_pos a _h
  omega
theorem chainL_pos {a b : Int} (h : 0 < b) : chainL a b = a / b :: chainL b (a % b) := by rw [chainL, dif_pos h]
theorem chainL_zero (a : Int) : chainL a 0 = [] := by rw [chainL, dif_neg (by omega)]
def frChain (a b : Int) : List Int := if frOk a b = true then chainL a b else []
theorem frChain_in {a b : Int} (h : frOk a b = true) : frChain a b = chainL a b := by unfold frChain; rw [if_pos h]
theorem frChain_out {a b : Int} (h : frOk a b = false) : frChain a b = [] := by unfold frChain; rw [if_neg (by simp [h])]
/-- The value v owns the numbers xs, in blocks from base on. -/
def Row (w : World) (base : Nat) (v : Value) (xs : List Int) : Prop := w.ownsRow base 3 1 v xs.length (xs.map (Value.int .i64))
def RowPost (w : World) (xs : List Int) (e : Ending) (w' : World) : Prop := ∃ v, e = .returned v ∧ Row w' w.heap.size v xs ∧ Below w.heap.size w w'
theorem Row.nil (w : World) (base : Nat) : Row w base (.slice none 0 0) [] := World.ownsRow_nil _ _ _ _
theorem Row.empty (w : World) (base : Nat) (hb : base ≤ w.heap.size) : Row (w.alloc (.cells #[] 3)) base (.slice (some ⟨w.heap.size, 0, none⟩) 0 0) [] := World.ownsRow_made w #[] 0 hb (by simp) rfl
theorem Row.emptyAt {w : World} {base g : Nat} (hg : g = w.heap.size) (hb : base ≤ w.heap.size) : Row (w.alloc (.cells #[] 3)) base (.slice (some ⟨g, 0, none⟩) 0 0) [] := by subst hg; exact Row.empty w base hb
theorem Row.lower {w : World} {base b : Nat} {v : Value} {xs : List Int} (h : Row w base v xs) (hb : b ≤ base) : Row w b v xs := by
  obtain ⟨h1, h2⟩ := h
  refine ⟨h1, ?_⟩
  rcases h2 with h | ⟨g, cap, cur, h3, h4, h5⟩
  · exact .inl h
  · exact .inr ⟨g, cap, cur, h3, by omega, h5⟩
theorem Row.drewN {w : World} {base : Nat} {v : Value} {xs : List Int} (h : Row w base v xs) (n : Nat) : Row (w.drewN n) base v xs := h
theorem Row.alloc {w : World} {base : Nat} {v : Value} {xs : List Int} (h : Row w base v xs) (o : Obj) : Row (w.alloc o) base v xs := World.ownsRow.alloc h o
theorem Row.kept {w w' : World} {base : Nat} {v : Value} {xs : List Int} {row : Option Nat} (h : Row w base v xs) (hg : w.grownBy w' row) (hne : v.ownBlock = none ∨ v.ownBlock ≠ row) : Row w' base v xs := World.ownsRow.kept h hg hne
theorem grown_far {w : World} (p : Addr) (u : Value) : w.grownBy (w.setCell p u) (some p.block) :=
  ⟨rfl, rfl, rfl, by simp [World.setCell], fun i _ hne => Below.heap_setCell w p u i (by intro e; exact hne (by rw [e]))⟩
theorem Row.far {w : World} {base : Nat} {v : Value} {xs : List Int} (h : Row w base v xs) {p : Addr} (hp : p.block < base) (u : Value) : Row (w.setCell p u) base v xs := by
  refine h.kept (grown_far p u) ?_
  cases ho : v.ownBlock with
  | none => exact .inl rfl
  | some k =>
    right
    have := (World.ownsRow.lt h k ho).1
    intro e
    injection e with e
    omega
theorem grownBy_alloc_ {w w' : World} {r : Option Nat} (h : w.grownBy w' r) (o : Obj) : w.grownBy (w'.alloc o) r :=
  ⟨h.os, h.tape, h.output, Nat.le_trans h.size (by simp), fun i hi hne => (Below.heap_alloc w' o i (Nat.lt_of_lt_of_le hi h.size)).trans (h.block i hi hne)⟩
theorem Row.below {w w' : World} {base : Nat} {v : Value} {xs : List Int} (h : Row w base v xs) (hb : Below w.heap.size w w') : Row w' base v xs :=
  h.kept (row := none) ⟨hb.os, hb.tape, hb.output, hb.size, fun i hi _ => hb.block i hi⟩ (by cases v.ownBlock <;> simp)
/-- One number more at the row's end. -/
theorem Row.more {w0 wr w1 : World} {base B : Nat} {v v' : Value} {xs : List Int} {q : Int} {o : Obj} (h : Row wr base v xs) (h' : w1.ownsRow base 3 1 v' (xs.length + 1) (xs.map (Value.int .i64) ++ [.int .i64 q])) (hg : (wr.alloc o).grownBy w1 v.ownBlock) (hb : Below B w0 wr) (hB : B ≤ base) (hw0 : B ≤ w0.heap.size) :
    Row w1 base v' (xs ++ [q]) ∧ Below B w0 w1 ∧ (∀ g t cs, g < base → Blk wr g t cs → Blk w1 g t cs) := by
  have hne : ∀ g, g < base → v.ownBlock = none ∨ some g ≠ v.ownBlock := by
    intro g hgb
    right
    intro e
    have := (World.ownsRow.lt h g e.symm).1
    omega
  refine ⟨?_, ?_, ?_⟩
  · unfold Row
    rw [List.map_append, List.length_append]
    exact h'
  · exact (hb.alloc (by have := hb.size; omega) o).grown hg (by have := hb.size; simp; omega) (fun k hk => by have := (World.ownsRow.lt h k hk).1; omega)
  · intro g t cs hgb hblk
    have hl := hblk.lt
    exact (hblk.alloc o).grown hg (by rcases hne g hgb with h1 | h1; (· rw [h1]; simp); exact h1)
def cellN (w : World) (g i : Nat) : Nat := (RowKit.intOf ((w.cell? ⟨g, i, none⟩).getD undef)).toNat
theorem cellN_of {w : World} {g i : Nat} {x : Int} (h : w.cell? ⟨g, i, none⟩ = some (.int .i64 x)) : cellN w g i = x.toNat := by unfold cellN; rw [h]; rfl
/-- What the rounds hold of the two numbers. -/
def ChRel (a b x y : Int) (xs : List Int) : Prop := xs ++ chainL x y = chainL a b ∧ -1000000 ≤ x ∧ x ≤ 1000000 ∧ 0 ≤ y ∧ y ≤ 1000000 ∧ (xs.length : Int) + y ≤ 1000000
theorem ch_start {a b : Int} (h : frOk a b = true) : ChRel a b a b [] := by
  have := frOk_mk h
  exact ⟨rfl, by omega, by omega, by omega, by omega, by simp; omega⟩
theorem ch_sum {x y : Int} (_ : 0 < y) : x - x / y * y = x % y := by have := Int.mul_ediv_add_emod x y; rw [Int.mul_comm] at this; omega
theorem emod_bd' (x : Int) {m : Int} (hm : 0 < m) : 0 ≤ x % m ∧ x % m < m := ⟨Int.emod_nonneg _ (by omega), Int.emod_lt_of_pos _ (by omega)⟩
theorem ch_step {a b x y : Int} {xs : List Int} (h : ChRel a b x y xs) (hy : 0 < y) : ChRel a b y (x - x / y * y) (xs ++ [x / y]) := by
  obtain ⟨h1, h2, h3, h4, h5, h6⟩ := h
  have e := emod_bd' x hy
  rw [ch_sum hy]
  refine ⟨?_, by omega, by omega, by omega, by omega, by simp; omega⟩
  rw [chainL_pos hy] at h1
  rw [List.append_assoc]
  exact h1
theorem ch_end {a b x : Int} {xs : List Int} (h : ChRel a b x 0 xs) : xs = chainL a b := by
  obtain ⟨h1, -⟩ := h
  rw [chainL_zero, List.append_nil] at h1
  exact h1

end Go.Proofs.Ytdpekaejklmomaa

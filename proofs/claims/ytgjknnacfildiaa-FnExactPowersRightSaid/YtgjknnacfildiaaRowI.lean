/- Rows of numbers that a call made. No condition: helpers alone. -/
import Derived.Test.YtgjknnacfildiaaNum
import Derived.Laws.MakeOwn
namespace Go.Proofs.Ytgjknnacfildiaa
open Go.ChangeShapes Go.WideShapes Go.ChangeAt Go.RowKit

/-- The value v owns the numbers xs, in blocks from base on. -/
def Row (w : World) (base : Nat) (v : Value) (xs : List Int) : Prop := w.ownsRow base 3 1 v xs.length (xs.map (Value.int .i64))
def RowPost (w : World) (xs : List Int) (e : Ending) (w' : World) : Prop := ∃ v, e = .returned v ∧ Row w' w.heap.size v xs ∧ Below w.heap.size w w'
theorem Row.nil (w : World) (base : Nat) : Row w base (.slice none 0 0) [] := World.ownsRow_nil _ _ _ _
theorem Row.empty (w : World) (base : Nat) (hb : base ≤ w.heap.size) : Row (w.alloc (.cells #[] 3)) base (.slice (some ⟨w.heap.size, 0, none⟩) 0 0) [] := World.ownsRow_made w #[] 0 hb (by simp) rfl
theorem Row.emptyAt {w : World} {base g : Nat} (hg : g = w.heap.size) (hb : base ≤ w.heap.size) : Row (w.alloc (.cells #[] 3)) base (.slice (some ⟨g, 0, none⟩) 0 0) [] := by subst hg; exact Row.empty w base hb
theorem Row.lower {w : World} {base b : Nat} {v : Value} {xs : List Int} (h : Row w base v xs) (hb : b ≤ base) : Row w b v xs := by
  obtain ⟨h1, h2⟩ := h
  refine ⟨h1, ?_⟩
  rcases h2 with h | ⟨g, cap, cur, h3, h4, h5⟩
  · exact .inl h
  · exact .inr ⟨g, cap, cur, h3, by omega, h5⟩
theorem Row.drewN {w : World} {base : Nat} {v : Value} {xs : List Int} (h : Row w base v xs) (n : Nat) : Row (w.drewN n) base v xs := h
theorem Row.alloc {w : World} {base : Nat} {v : Value} {xs : List Int} (h : Row w base v xs) (o : Obj) : Row (w.alloc o) base v xs := World.ownsRow.alloc h o
theorem Row.kept {w w' : World} {base : Nat} {v : Value} {xs : List Int} {row : Option Nat} (h : Row w base v xs) (hg : w.grownBy w' row) (hne : v.ownBlock = none ∨ v.ownBlock ≠ row) : Row w' base v xs := World.ownsRow.kept h hg hne
theorem grown_far {w : World} (p : Addr) (u : Value) : w.grownBy (w.setCell p u) (some p.block) :=
  ⟨rfl, rfl, rfl, by simp [World.setCell], fun i _ hne => Below.heap_setCell w p u i (by intro e; exact hne (by rw [e]))⟩
theorem Row.far {w : World} {base : Nat} {v : Value} {xs : List Int} (h : Row w base v xs) {p : Addr} (hp : p.block < base) (u : Value) : Row (w.setCell p u) base v xs := by
  refine h.kept (grown_far p u) ?_
  cases ho : v.ownBlock with
  | none => exact .inl rfl
  | some k =>
    right
    have := (World.ownsRow.lt h k ho).1
    intro e
    injection e with e
    omega
theorem grownBy_alloc_ {w w' : World} {r : Option Nat} (h : w.grownBy w' r) (o : Obj) : w.grownBy (w'.alloc o) r :=
  ⟨h.os, h.tape, h.output, Nat.le_trans h.size (by simp), fun i hi hne => (Below.heap_alloc w' o i (Nat.lt_of_lt_of_le hi h.size)).trans (h.block i hi hne)⟩
theorem Row.below {w w' : World} {base : Nat} {v : Value} {xs : List Int} (h : Row w base v xs) (hb : Below w.heap.size w w') : Row w' base v xs :=
  h.kept (row := none) ⟨hb.os, hb.tape, hb.output, hb.size, fun i hi _ => hb.block i hi⟩ (by cases v.ownBlock <;> simp)
/-- One number more at the row's end. -/
theorem Row.more {w0 wr w1 : World} {base B : Nat} {v v' : Value} {xs : List Int} {q : Int} {o : Obj} (h : Row wr base v xs) (h' : w1.ownsRow base 3 1 v' (xs.length + 1) (xs.map (Value.int .i64) ++ [.int .i64 q])) (hg : (wr.alloc o).grownBy w1 v.ownBlock) (hb : Below B w0 wr) (hB : B ≤ base) (hw0 : B ≤ w0.heap.size) :
    Row w1 base v' (xs ++ [q]) ∧ Below B w0 w1 ∧ (∀ g t cs, g < base → Blk wr g t cs → Blk w1 g t cs) := by
  have hne : ∀ g, g < base → v.ownBlock = none ∨ some g ≠ v.ownBlock := by
    intro g hgb
    right
    intro e
    have := (World.ownsRow.lt h g e.symm).1
    omega
  refine ⟨?_, ?_, ?_⟩
  · unfold Row
    rw [List.map_append, List.length_append]
    exact h'
  · exact (hb.alloc (by have := hb.size; omega) o).grown hg (by have := hb.size; simp; omega) (fun k hk => by have := (World.ownsRow.lt h k hk).1; omega)
  · intro g t cs hgb hblk
    have hl := hblk.lt
    exact (hblk.alloc o).grown hg (by rcases hne g hgb with h1 | h1; (· rw [h1]; simp); exact h1)
theorem Row.open_ {w : World} {base : Nat} {v : Value} {xs : List Int} (h : Row w base v xs) : ∃ ao cap, v = .slice ao xs.length cap ∧ cap ≤ maxLen ∧ xs.length ≤ cap ∧
    (0 < xs.length → ∃ g, ao = some ⟨g, 0, none⟩ ∧ (∀ j, j < xs.length → w.cell? ⟨g, j, none⟩ = some (.int .i64 (xs.getD j 0))) ∧ (∀ j, w.frozen? ⟨g, j, none⟩ = false)) := by
  rcases h.2 with ⟨rfl, h0⟩ | ⟨g, cap, cur, rfl, hb, hg, hnc, hcm, hcs, htake⟩
  · exact ⟨none, 0, by rw [h0], Nat.zero_le _, by omega, fun h => by omega⟩
  · refine ⟨some ⟨g, 0, none⟩, cap, rfl, hcm, hnc, fun _ => ⟨g, rfl, fun j hj => ?_, fun j => ?_⟩⟩
    · rw [World.ownsRow.cellAt h j (by omega)]
      simp [hj]
    · exact World.ownsRow.frozenAt h j
theorem Row.put {w : World} {base g n cap : Nat} {xs : List Int} (h : Row w base (.slice (some ⟨g, 0, none⟩) n cap) xs) (hn : n = xs.length) (j : Nat) (u : Int) : Row (w.setCell ⟨g, j, none⟩ (.int .i64 u)) base (.slice (some ⟨g, 0, none⟩) n cap) (xs.set j u) ∧ w.grownBy (w.setCell ⟨g, j, none⟩ (.int .i64 u)) (some g) := by
  subst hn
  have h' := World.ownsRow.stored h j (.int .i64 u)
  refine ⟨?_, h'.2⟩
  unfold Row
  rw [List.length_set, List.map_set]
  exact h'.1
theorem grown_self {w w1 w2 : World} {r : Option Nat} (h : w.grownBy w1 r) (h' : w1.grownBy w2 r) : w.grownBy w2 r :=
  ⟨h'.os.trans h.os, h'.tape.trans h.tape, h'.output.trans h.output, Nat.le_trans h.size h'.size, fun i hi hne => (h'.block i (Nat.lt_of_lt_of_le hi h.size) hne).trans (h.block i hi hne)⟩
theorem made_ints {i0 : TypeInfo} (w : World) (len : Nat) (hm : len ≤ 1048576) (hi : Try.prog.info? 3 = some i0) (hz0 : i0.zero = some (.int .i64 0)) (hz1 : i0.size = 1) (hz2 : i0.bytes = 8) :
    (Instr.makeSlice 23 (.int .i64 (len : Int)) (.int .i64 (len : Int))).run Try.prog w = .ok (.slice (some ⟨w.heap.size, 0, none⟩) len len) (w.alloc (.cells (madeCells #[.int .i64 0] len) 3)) := by
  have k := run_make (P := Try.prog) w 23 3 i0 (.int .i64 0) Try.underlying23 hi hz0 .i64 .i64 (len : Int) (len : Int) (by omega) (Int.le_refl _) (by rw [hz2]; omega) (by omega)
  rw [hz1] at k
  simp only [Int.toNat_natCast, Nat.mul_one] at k
  exact k
theorem made_list (len : Nat) : (madeCells #[Value.int .i64 0] len).toList = (List.replicate len (0 : Int)).map (Value.int .i64) := by
  refine List.ext_getElem (by simp [madeCells]) fun j h1 h2 => ?_
  simp [madeCells, Nat.mod_one]
theorem made_row (w : World) (len : Nat) (hm : len ≤ 1048576) : Row (w.alloc (.cells (madeCells #[.int .i64 0] len) 3)) w.heap.size (.slice (some ⟨w.heap.size, 0, none⟩) len len) (List.replicate len 0) := by
  have k := World.ownsRow_lit (base := w.heap.size) (e := 3) (size := 1) w (madeCells #[.int .i64 0] len) len (Nat.le_refl _) (by unfold maxLen; omega) (by rw [size_madeCells]; omega)
  unfold Row
  rw [List.length_replicate, ← made_list]
  exact k
theorem isz {w : World} {g j : Nat} {v : Value} (h : w.cell? ⟨g, j, none⟩ = some v) : g < w.heap.size := by
  rcases Nat.lt_or_ge g w.heap.size with h1 | h1
  · exact h1
  · simp [World.cell?, Array.getElem?_eq_none h1] at h
theorem Row.size {w : World} {base g n cap : Nat} {xs : List Int} (h : Row w base (.slice (some ⟨g, 0, none⟩) n cap) xs) : base ≤ g ∧ g < w.heap.size := World.ownsRow.lt h g rfl
/-- A row that is only read. -/
def RdR (w : World) (base : Nat) (v : Value) (xs : List Int) : Prop := ∃ (g cap : Nat), v = .slice (some ⟨g, 0, none⟩) xs.length cap ∧ base ≤ g ∧ g < w.heap.size ∧ cap ≤ maxLen ∧ xs.length ≤ cap ∧ ∀ j, j < xs.length → w.cell? ⟨g, j, none⟩ = some (.int .i64 (xs.getD j 0))
theorem Row.rd {w : World} {base : Nat} {v : Value} {xs : List Int} (h : Row w base v xs) (hp : 0 < xs.length) : RdR w base v xs := by
  have h0 := h
  obtain ⟨ao, cap, rfl, hc, hlc, hA⟩ := h.open_
  obtain ⟨g, rfl, cA, -⟩ := hA hp
  exact ⟨g, cap, rfl, (Row.size h0).1, (Row.size h0).2, hc, hlc, cA⟩
theorem RdR.below {w w' : World} {base : Nat} {v : Value} {xs : List Int} (h : RdR w base v xs) (hb : Below w.heap.size w w') : RdR w' base v xs := by
  obtain ⟨g, cap, rfl, h1, h2, h3, h4, h5⟩ := h
  exact ⟨g, cap, rfl, h1, Nat.lt_of_lt_of_le h2 hb.size, h3, h4, fun j hj => by rw [hb.cell (p := ⟨g, j, none⟩) h2]; exact h5 j hj⟩
theorem RdR.lower {w : World} {base b : Nat} {v : Value} {xs : List Int} (h : RdR w base v xs) (hb : b ≤ base) : RdR w b v xs := by
  obtain ⟨g, cap, rfl, h1, h2, h3, h4, h5⟩ := h
  exact ⟨g, cap, rfl, by omega, h2, h3, h4, h5⟩
theorem RdR.drewN {w : World} {base : Nat} {v : Value} {xs : List Int} (h : RdR w base v xs) (n : Nat) : RdR (w.drewN n) base v xs := h
theorem RdR.alloc {w : World} {base : Nat} {v : Value} {xs : List Int} (h : RdR w base v xs) (o : Obj) : RdR (w.alloc o) base v xs := h.below ((Below.refl _ _).alloc (Nat.le_refl _) o)
/-- The first e of a row, by a slice expression with all three bounds. -/
theorem Row.cut {w : World} {base g n cap : Nat} {xs : List Int} (h : Row w base (.slice (some ⟨g, 0, none⟩) n cap) xs) (e : Nat) (he : e ≤ xs.length) : RdR w base (.slice (some ⟨g, 0, none⟩) e e) (xs.take e) := by
  obtain ⟨ao, cap', e0, hc, hlc, hA⟩ := h.open_
  obtain ⟨h1, h2⟩ := h.size
  simp only [Value.slice.injEq] at e0
  obtain ⟨rfl, rfl, rfl⟩ := e0
  have hl : (xs.take e).length = e := by simp; omega
  refine ⟨g, e, by rw [hl], h1, h2, by omega, by omega, fun j hj => ?_⟩
  rw [hl] at hj
  obtain ⟨g', e1, cA, -⟩ := hA (by omega)
  injection e1 with e1
  injection e1 with e1
  subst e1
  rw [cA j (by omega)]
  simp [List.getD_eq_getElem?_getD, hj]
theorem Row.at {w : World} {base g n cap : Nat} {xs : List Int} (h : Row w base (.slice (some ⟨g, 0, none⟩) n cap) xs) : n = xs.length ∧ (∀ j, j < xs.length → w.cell? ⟨g, j, none⟩ = some (.int .i64 (xs.getD j 0))) ∧ (∀ j, w.frozen? ⟨g, j, none⟩ = false) ∧ g < w.heap.size := by
  obtain ⟨ao, cap', e0, hc, hlc, hA⟩ := h.open_
  obtain ⟨h1, h2⟩ := h.size
  simp only [Value.slice.injEq] at e0
  obtain ⟨rfl, rfl, rfl⟩ := e0
  refine ⟨rfl, fun j hj => ?_, fun j => World.ownsRow.frozenAt h j, h2⟩
  obtain ⟨g', e1, cA, -⟩ := hA (by omega)
  injection e1 with e1
  injection e1 with e1
  subst e1
  exact cA j hj
end Go.Proofs.Ytgjknnacfildiaa

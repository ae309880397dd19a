/- Rows of texts that a call made. No condition: helpers alone. -/
import Derived.Test.YtidnnnjjpjadlaaGreatDoorNum
import Derived.Laws.MakeOwn
namespace Go.Proofs.YtidnnnjjpjadlaaGreatDoor
open Go.ChangeShapes Go.WideShapes Go.ChangeAt Go.RowKit

/-- The value v owns the texts xs, in blocks from base on. -/
def RowS (w : World) (base : Nat) (v : Value) (xs : List ByteArray) : Prop := w.ownsRow base 9 1 v xs.length (xs.map Value.string)
def RowPostS (w : World) (xs : List ByteArray) (e : Ending) (w' : World) : Prop := ∃ v, e = .returned v ∧ RowS w' w.heap.size v xs ∧ Below w.heap.size w w'
theorem RowS.nil (w : World) (base : Nat) : RowS w base (.slice none 0 0) [] := World.ownsRow_nil _ _ _ _
theorem RowS.empty (w : World) (base : Nat) (hb : base ≤ w.heap.size) : RowS (w.alloc (.cells #[] 9)) base (.slice (some ⟨w.heap.size, 0, none⟩) 0 0) [] := World.ownsRow_made w #[] 0 hb (by simp) rfl
theorem RowS.emptyAt {w : World} {base g : Nat} (hg : g = w.heap.size) (hb : base ≤ w.heap.size) : RowS (w.alloc (.cells #[] 9)) base (.slice (some ⟨g, 0, none⟩) 0 0) [] := by subst hg; exact RowS.empty w base hb
theorem RowS.lower {w : World} {base b : Nat} {v : Value} {xs : List ByteArray} (h : RowS w base v xs) (hb : b ≤ base) : RowS w b v xs := by
  obtain ⟨h1, h2⟩ := h
  refine ⟨h1, ?_⟩
  rcases h2 with h | ⟨g, cap, cur, h3, h4, h5⟩
  · exact .inl h
  · exact .inr ⟨g, cap, cur, h3, by omega, h5⟩
theorem RowS.drewN {w : World} {base : Nat} {v : Value} {xs : List ByteArray} (h : RowS w base v xs) (n : Nat) : RowS (w.drewN n) base v xs := h
theorem RowS.alloc {w : World} {base : Nat} {v : Value} {xs : List ByteArray} (h : RowS w base v xs) (o : Obj) : RowS (w.alloc o) base v xs := World.ownsRow.alloc h o
theorem RowS.kept {w w' : World} {base : Nat} {v : Value} {xs : List ByteArray} {row : Option Nat} (h : RowS w base v xs) (hg : w.grownBy w' row) (hne : v.ownBlock = none ∨ v.ownBlock ≠ row) : RowS w' base v xs := World.ownsRow.kept h hg hne
theorem grown_farS {w : World} (p : Addr) (u : Value) : w.grownBy (w.setCell p u) (some p.block) :=
  ⟨rfl, rfl, rfl, by simp [World.setCell], fun i _ hne => Below.heap_setCell w p u i (by intro e; exact hne (by rw [e]))⟩
theorem RowS.far {w : World} {base : Nat} {v : Value} {xs : List ByteArray} (h : RowS w base v xs) {p : Addr} (hp : p.block < base) (u : Value) : RowS (w.setCell p u) base v xs := by
  refine h.kept (grown_farS p u) ?_
  cases ho : v.ownBlock with
  | none => exact .inl rfl
  | some k =>
    right
    have := (World.ownsRow.lt h k ho).1
    intro e
    injection e with e
    omega
theorem grownBy_allocS {w w' : World} {r : Option Nat} (h : w.grownBy w' r) (o : Obj) : w.grownBy (w'.alloc o) r :=
  ⟨h.os, h.tape, h.output, Nat.le_trans h.size (by simp), fun i hi hne => (Below.heap_alloc w' o i (Nat.lt_of_lt_of_le hi h.size)).trans (h.block i hi hne)⟩
theorem RowS.below {w w' : World} {base : Nat} {v : Value} {xs : List ByteArray} (h : RowS w base v xs) (hb : Below w.heap.size w w') : RowS w' base v xs :=
  h.kept (row := none) ⟨hb.os, hb.tape, hb.output, hb.size, fun i hi _ => hb.block i hi⟩ (by cases v.ownBlock <;> simp)
/-- One text more at the row's end. -/
theorem RowS.more {w0 wr w1 : World} {base B : Nat} {v v' : Value} {xs : List ByteArray} {q : ByteArray} {o : Obj} (h : RowS wr base v xs) (h' : w1.ownsRow base 9 1 v' (xs.length + 1) (xs.map Value.string ++ [.string q])) (hg : (wr.alloc o).grownBy w1 v.ownBlock) (hb : Below B w0 wr) (hB : B ≤ base) (hw0 : B ≤ w0.heap.size) :
    RowS w1 base v' (xs ++ [q]) ∧ Below B w0 w1 ∧ (∀ g t cs, g < base → Blk wr g t cs → Blk w1 g t cs) := by
  have hne : ∀ g, g < base → v.ownBlock = none ∨ some g ≠ v.ownBlock := by
    intro g hgb
    right
    intro e
    have := (World.ownsRow.lt h g e.symm).1
    omega
  refine ⟨?_, ?_, ?_⟩
  · unfold RowS
    rw [List.map_append, List.length_append]
    exact h'
  · exact (hb.alloc (by have := hb.size; omega) o).grown hg (by have := hb.size; simp; omega) (fun k hk => by have := (World.ownsRow.lt h k hk).1; omega)
  · intro g t cs hgb hblk
    have hl := hblk.lt
    exact (hblk.alloc o).grown hg (by rcases hne g hgb with h1 | h1; (· rw [h1]; simp); exact h1)
theorem RowS.open_ {w : World} {base : Nat} {v : Value} {xs : List ByteArray} (h : RowS w base v xs) : ∃ ao cap, v = .slice ao xs.length cap ∧ cap ≤ maxLen ∧ xs.length ≤ cap ∧
    (0 < xs.length → ∃ g, ao = some ⟨g, 0, none⟩ ∧ (∀ j, j < xs.length → w.cell? ⟨g, j, none⟩ = some (.string (xs.getD j ByteArray.empty))) ∧ (∀ j, w.frozen? ⟨g, j, none⟩ = false)) := by
  rcases h.2 with ⟨rfl, h0⟩ | ⟨g, cap, cur, rfl, hb, hg, hnc, hcm, hcs, htake⟩
  · exact ⟨none, 0, by rw [h0], Nat.zero_le _, by omega, fun h => by omega⟩
  · refine ⟨some ⟨g, 0, none⟩, cap, rfl, hcm, hnc, fun _ => ⟨g, rfl, fun j hj => ?_, fun j => ?_⟩⟩
    · rw [World.ownsRow.cellAt h j (by omega)]
      simp [hj]
    · exact World.ownsRow.frozenAt h j
theorem RowS.put {w : World} {base g n cap : Nat} {xs : List ByteArray} (h : RowS w base (.slice (some ⟨g, 0, none⟩) n cap) xs) (hn : n = xs.length) (j : Nat) (u : ByteArray) : RowS (w.setCell ⟨g, j, none⟩ (.string u)) base (.slice (some ⟨g, 0, none⟩) n cap) (xs.set j u) ∧ w.grownBy (w.setCell ⟨g, j, none⟩ (.string u)) (some g) := by
  subst hn
  have h' := World.ownsRow.stored h j (.string u)
  refine ⟨?_, h'.2⟩
  unfold RowS
  rw [List.length_set, List.map_set]
  exact h'.1
theorem grown_selfS {w w1 w2 : World} {r : Option Nat} (h : w.grownBy w1 r) (h' : w1.grownBy w2 r) : w.grownBy w2 r :=
  ⟨h'.os.trans h.os, h'.tape.trans h.tape, h'.output.trans h.output, Nat.le_trans h.size h'.size, fun i hi hne => (h'.block i (Nat.lt_of_lt_of_le hi h.size) hne).trans (h.block i hi hne)⟩
theorem made_strs {i0 : TypeInfo} (w : World) (len : Nat) (hm : len ≤ 1048576) (hi : Tryz.prog.info? 9 = some i0) (hz0 : i0.zero = some (.string ⟨#[]⟩)) (hz1 : i0.size = 1) (hz2 : i0.bytes = 16) :
    (Instr.makeSlice 34 (.int .i64 (len : Int)) (.int .i64 (len : Int))).run Tryz.prog w = .ok (.slice (some ⟨w.heap.size, 0, none⟩) len len) (w.alloc (.cells (madeCells #[.string ⟨#[]⟩] len) 9)) := by
  have k := run_make (P := Tryz.prog) w 34 9 i0 (.string ⟨#[]⟩) Tryz.underlying34 hi hz0 .i64 .i64 (len : Int) (len : Int) (by omega) (Int.le_refl _) (by rw [hz2]; omega) (by omega)
  rw [hz1] at k
  simp only [Int.toNat_natCast, Nat.mul_one] at k
  exact k
theorem made_listS (len : Nat) : (madeCells #[Value.string ⟨#[]⟩] len).toList = (List.replicate len (⟨#[]⟩ : ByteArray)).map Value.string := by
  refine List.ext_getElem (by simp [madeCells]) fun j h1 h2 => ?_
  simp [madeCells, Nat.mod_one]
theorem made_rowS (w : World) (len : Nat) (hm : len ≤ 1048576) : RowS (w.alloc (.cells (madeCells #[.string ⟨#[]⟩] len) 9)) w.heap.size (.slice (some ⟨w.heap.size, 0, none⟩) len len) (List.replicate len ⟨#[]⟩) := by
  have k := World.ownsRow_lit (base := w.heap.size) (e := 9) (size := 1) w (madeCells #[.string ⟨#[]⟩] len) len (Nat.le_refl _) (by unfold maxLen; omega) (by rw [size_madeCells]; omega)
  unfold RowS
  rw [List.length_replicate, ← made_listS]
  exact k
theorem iszS {w : World} {g j : Nat} {v : Value} (h : w.cell? ⟨g, j, none⟩ = some v) : g < w.heap.size := by
  rcases Nat.lt_or_ge g w.heap.size with h1 | h1
  · exact h1
  · simp [World.cell?, Array.getElem?_eq_none h1] at h
theorem RowS.size {w : World} {base g n cap : Nat} {xs : List ByteArray} (h : RowS w base (.slice (some ⟨g, 0, none⟩) n cap) xs) : base ≤ g ∧ g < w.heap.size := World.ownsRow.lt h g rfl
/-- A row that is only read. -/
def RdS (w : World) (base : Nat) (v : Value) (xs : List ByteArray) : Prop := ∃ (g cap : Nat), v = .slice (some ⟨g, 0, none⟩) xs.length cap ∧ base ≤ g ∧ g < w.heap.size ∧ cap ≤ maxLen ∧ xs.length ≤ cap ∧ ∀ j, j < xs.length → w.cell? ⟨g, j, none⟩ = some (.string (xs.getD j ByteArray.empty))
theorem RowS.rd {w : World} {base : Nat} {v : Value} {xs : List ByteArray} (h : RowS w base v xs) (hp : 0 < xs.length) : RdS w base v xs := by
  have h0 := h
  obtain ⟨ao, cap, rfl, hc, hlc, hA⟩ := h.open_
  obtain ⟨g, rfl, cA, -⟩ := hA hp
  exact ⟨g, cap, rfl, (RowS.size h0).1, (RowS.size h0).2, hc, hlc, cA⟩
theorem RdS.below {w w' : World} {base : Nat} {v : Value} {xs : List ByteArray} (h : RdS w base v xs) (hb : Below w.heap.size w w') : RdS w' base v xs := by
  obtain ⟨g, cap, rfl, h1, h2, h3, h4, h5⟩ := h
  exact ⟨g, cap, rfl, h1, Nat.lt_of_lt_of_le h2 hb.size, h3, h4, fun j hj => by rw [hb.cell (p := ⟨g, j, none⟩) h2]; exact h5 j hj⟩
theorem RdS.lower {w : World} {base b : Nat} {v : Value} {xs : List ByteArray} (h : RdS w base v xs) (hb : b ≤ base) : RdS w b v xs := by
  obtain ⟨g, cap, rfl, h1, h2, h3, h4, h5⟩ := h
  exact ⟨g, cap, rfl, by omega, h2, h3, h4, h5⟩
theorem RdS.drewN {w : World} {base : Nat} {v : Value} {xs : List ByteArray} (h : RdS w base v xs) (n : Nat) : RdS (w.drewN n) base v xs := h
theorem RdS.alloc {w : World} {base : Nat} {v : Value} {xs : List ByteArray} (h : RdS w base v xs) (o : Obj) : RdS (w.alloc o) base v xs := h.below ((Below.refl _ _).alloc (Nat.le_refl _) o)
/-- The first e of a row, by a slice expression with all three bounds. -/
theorem RowS.cut {w : World} {base g n cap : Nat} {xs : List ByteArray} (h : RowS w base (.slice (some ⟨g, 0, none⟩) n cap) xs) (e : Nat) (he : e ≤ xs.length) : RdS w base (.slice (some ⟨g, 0, none⟩) e e) (xs.take e) := by
  obtain ⟨ao, cap', e0, hc, hlc, hA⟩ := h.open_
  obtain ⟨h1, h2⟩ := h.size
  simp only [Value.slice.injEq] at e0
  obtain ⟨rfl, rfl, rfl⟩ := e0
  have hl : (xs.take e).length = e := by simp; omega
  refine ⟨g, e, by rw [hl], h1, h2, by omega, by omega, fun j hj => ?_⟩
  rw [hl] at hj
  obtain ⟨g', e1, cA, -⟩ := hA (by omega)
  injection e1 with e1
  injection e1 with e1
  subst e1
  rw [cA j (by omega)]
  simp [List.getD_eq_getElem?_getD, hj]
theorem RowS.at {w : World} {base g n cap : Nat} {xs : List ByteArray} (h : RowS w base (.slice (some ⟨g, 0, none⟩) n cap) xs) : n = xs.length ∧ (∀ j, j < xs.length → w.cell? ⟨g, j, none⟩ = some (.string (xs.getD j ByteArray.empty))) ∧ (∀ j, w.frozen? ⟨g, j, none⟩ = false) ∧ g < w.heap.size := by
  obtain ⟨ao, cap', e0, hc, hlc, hA⟩ := h.open_
  obtain ⟨h1, h2⟩ := h.size
  simp only [Value.slice.injEq] at e0
  obtain ⟨rfl, rfl, rfl⟩ := e0
  refine ⟨rfl, fun j hj => ?_, fun j => World.ownsRow.frozenAt h j, h2⟩
  obtain ⟨g', e1, cA, -⟩ := hA (by omega)
  injection e1 with e1
  injection e1 with e1
  subst e1
  exact cA j hj
/-- A row of texts that a caller hands in. -/
def IsRowS (w : World) (a : Option Addr) (len cap : Nat) (ss : List ByteArray) : Prop :=
  (a = none ∧ len = 0 ∧ cap = 0 ∧ ss = []) ∨
  ∃ x, a = some x ∧ len ≤ cap ∧ cap ≤ maxLen ∧ ss.length = cap ∧ (∀ i, i < ss.length → w.cell? (x.add i) = some (.string (ss.getD i ByteArray.empty))) ∧ (∀ s ∈ ss, s.size ≤ maxLen) ∧ (0 < ss.length → x.block < w.heap.size)
theorem isRowS_lt {w : World} {x : Addr} {ss : List ByteArray} (hcell : ∀ i, i < ss.length → w.cell? (x.add i) = some (.string (ss.getD i ByteArray.empty))) : 0 < ss.length → x.block < w.heap.size := by
  intro h
  have h0 := hcell 0 h
  rcases Nat.lt_or_ge x.block w.heap.size with hlt | hge
  · exact hlt
  · have : w.heap[x.block]? = none := by simp [hge]
    simp [World.cell?, Addr.add, this] at h0
/-- A row of texts that is only read: of a caller or of one's own. -/
def RdT (w : World) (a : Option Addr) (xs : List ByteArray) : Prop := ∀ j, j < xs.length → ∃ x : Addr, a = some x ∧ x.block < w.heap.size ∧ w.cell? (x.add j) = some (.string (xs.getD j ByteArray.empty))
theorem RdT.below {w w' : World} {a : Option Addr} {xs : List ByteArray} (h : RdT w a xs) (hb : Below w.heap.size w w') : RdT w' a xs := by
  intro j hj
  obtain ⟨x, h1, h2, h3⟩ := h j hj
  exact ⟨x, h1, Nat.lt_of_lt_of_le h2 hb.size, by rw [hb.cell (p := x.add j) (by unfold Addr.add; split <;> exact h2)]; exact h3⟩
theorem IsRowS.rd {w : World} {a : Option Addr} {len cap : Nat} {ss : List ByteArray} (h : IsRowS w a len cap ss) : RdT w a (ss.take len) ∧ len ≤ cap ∧ cap ≤ maxLen ∧ (ss.take len).length = len ∧ ∀ s ∈ ss.take len, s.size ≤ maxLen := by
  rcases h with ⟨rfl, rfl, rfl, rfl⟩ | ⟨x, rfl, h1, h2, h3, h4, h5, h6⟩
  · exact ⟨fun j hj => by simp at hj, by omega, by unfold maxLen; omega, rfl, fun s hs => by simp at hs⟩
  · have hl : (ss.take len).length = len := by simp; omega
    refine ⟨fun j hj => ⟨x, rfl, h6 (by rw [hl] at hj; omega), ?_⟩, h1, h2, hl, fun s hs => h5 s (List.mem_of_mem_take hs)⟩
    rw [hl] at hj
    rw [h4 j (by omega)]
    simp [List.getD_eq_getElem?_getD, hj]
theorem RowS.rdT {w : World} {base : Nat} {a : Option Addr} {n cap : Nat} {xs : List ByteArray} (h : RowS w base (.slice a n cap) xs) : RdT w a xs := by
  obtain ⟨ao, cap', e, hc, hlc, hA⟩ := h.open_
  simp only [Value.slice.injEq] at e
  obtain ⟨rfl, rfl, rfl⟩ := e
  intro j hj
  obtain ⟨g, rfl, cA, -⟩ := hA (by omega)
  exact ⟨_, rfl, iszS (cA j hj), by
    have k := cA j hj
    rcases Nat.eq_zero_or_pos j with h0 | h0
    · subst h0; simpa [Addr.add] using k
    · have hj0 : ¬ j = 0 := by omega
      simpa [Addr.add, hj0] using k⟩
end Go.Proofs.YtidnnnjjpjadlaaGreatDoor
